/- Tokens of joined, of long and of quoted texts: plain laws. No condition. -/
import Derived.Test.YtcmdcdjclmpncaaT
namespace Go.Proofs.Ytcmdcdjclmpncaa
open Go.RowKit
/-- X begins with a blank. -/
def Bl (X : List UInt8) : Prop := ∃ b, X = 32 :: b
theorem hd_app {r X : List UInt8} (h : Bl X) : digitB (hd (r ++ X)) = digitB (hd r) ∧ ((hd (r ++ X)).toNat = 61 ↔ (hd r).toNat = 61) := by
  obtain ⟨b, rfl⟩ := h
  cases r with
  | nil => exact ⟨(by show digitB 32 = digitB 0; decide), (by show (32 : UInt8).toNat = 61 ↔ (0 : UInt8).toNat = 61; decide)⟩
  | cons c r => exact ⟨rfl, Iff.rfl⟩
theorem dw_app {p : UInt8 → Bool} (hp : p 32 = false) {X : List UInt8} (h : Bl X) : ∀ r : List UInt8, (r ++ X).dropWhile p = r.dropWhile p ++ X
  | [] => by
    obtain ⟨b, rfl⟩ := h
    simp [hp]
  | c :: r => by
    rw [List.cons_append, List.dropWhile_cons, List.dropWhile_cons]
    split
    · exact dw_app hp h r
    · rfl
theorem numR_app {X : List UInt8} (h : Bl X) : ∀ (p : Bool) (r : List UInt8), numR p (r ++ X) = numR p r ++ X
  | p, [] => by
    obtain ⟨b, rfl⟩ := h
    have h1 : digitB 32 = false := by decide
    simp [numR, h1]
  | p, c :: r => by
    rw [List.cons_append, numR, numR, (hd_app h).1]
    split
    · exact numR_app h p r
    · split
      · exact numR_app h true r
      · rfl
theorem quoted_app {X : List UInt8} : ∀ (n : Nat) {q : UInt8} {acc l t r : List UInt8}, l.length ≤ n → quotedL q acc l = some (t, r) → quotedL q acc (l ++ X) = some (t, r ++ X)
  | n, q, acc, [], t, r, _, h => by rw [quoted_nil] at h; cases h
  | 0, q, acc, c :: l, t, r, hn, h => by simp at hn
  | n + 1, q, acc, c :: l, t, r, hn, h => by
    by_cases hq : c = q
    · subst hq
      rw [quoted_end] at h
      cases h
      rw [List.cons_append, quoted_end]
    · by_cases h92 : c.toNat = 92
      · cases l with
        | nil => rw [quoted_cut _ _ _ hq] at h; cases h
        | cons d l =>
          by_cases hd : d = q ∨ d.toNat = 92
          · rw [quoted_esc _ _ _ _ _ hq h92 hd] at h
            rw [List.cons_append, List.cons_append, quoted_esc _ _ _ _ _ hq h92 hd]
            exact quoted_app n (by simp at hn; omega) h
          · rw [quoted_bad _ _ _ _ _ hq h92 hd] at h; cases h
      · rw [quoted_plain _ _ _ _ hq h92] at h
        rw [List.cons_append, quoted_plain _ _ _ _ hq h92]
        exact quoted_app n (by simp at hn; omega) h
theorem pre_app (l q X : List UInt8) (h : q.length ≤ l.length) : pre (l ++ X) (q ++ X) = pre l q := by
  unfold pre
  rw [show (l ++ X).length - (q ++ X).length = l.length - q.length by simp; omega, List.take_append_of_le_length (by omega)]
theorem one_app {c : UInt8} {r t q X : List UInt8} {k : Int} (hX : Bl X) (h : one (c :: r) = some (k, t, q)) : one (c :: (r ++ X)) = some (k, t, q ++ X) := by
  have hl := one_len h
  have h : one1 c r = some (k, t, q) := h
  show one1 c (r ++ X) = some (k, t, q ++ X)
  have hw : wordB 32 = false := by decide
  have hm : minus c (r ++ X) = minus c r := by unfold minus; rw [(hd_app hX).1]
  have h61 : decide ((hd (r ++ X)).toNat = 61) = decide ((hd r).toNat = 61) := by
    rw [Bool.eq_iff_iff, decide_eq_true_eq, decide_eq_true_eq]; exact (hd_app hX).2
  unfold one1 at h ⊢
  rw [hm, h61, dw_app hw hX, numR_app hX]
  split at h
  · rename_i hc
    cases h
    rw [if_pos hc, show c :: (r ++ X) = (c :: r) ++ X from rfl, pre_app _ _ _ (by have := dw_len wordB r; simp; omega)]
  · rename_i hc
    rw [if_neg hc]
    split at h
    · rename_i hc2
      rw [if_pos hc2]
      have hnl := numR_len false r
      rw [show (c :: (r ++ X)).length - (numR false r ++ X).length = (c :: r).length - (numR false r).length by simp; omega]
      split at h
      · rename_i hc3
        cases h
        rw [if_pos hc3, show c :: (r ++ X) = (c :: r) ++ X from rfl, pre_app _ _ _ (by simp; omega)]
      · cases h
    · rename_i hc2
      rw [if_neg hc2]
      split at h
      · rename_i hc3
        rw [if_pos hc3]
        rw [Option.map_eq_some_iff] at h
        obtain ⟨p, hp, he⟩ := h
        cases he
        rw [quoted_app _ (Nat.le_refl _) hp]
        rfl
      · rename_i hc3
        rw [if_neg hc3]
        split at h
        · rename_i hc4
          rw [if_pos hc4]
          cases h
          have hr : r ≠ [] := by
            rintro rfl
            simp [hd] at hc4
          obtain ⟨d, r', rfl⟩ := List.exists_cons_of_ne_nil hr
          simp only [List.cons_append, List.drop_succ_cons, List.drop_zero]
          rw [show c :: d :: (r' ++ X) = (c :: d :: r') ++ X from rfl, pre_app _ _ _ (by simp; omega)]
        · rename_i hc4
          rw [if_neg hc4]
          split at h
          · rename_i hc5
            rw [if_pos hc5]
            cases h
            rfl
          · cases h
theorem dw_all {p : UInt8 → Bool} {l X : List UInt8} (h : l.dropWhile p = []) : (l ++ X).dropWhile p = X.dropWhile p := by
  induction l with
  | nil => rfl
  | cons c l ih =>
    rw [List.dropWhile_cons] at h
    split at h
    · rename_i hc
      rw [List.cons_append, List.dropWhile_cons, if_pos hc, ih h]
    · cases h
theorem dw_some {p : UInt8 → Bool} {l X r : List UInt8} {c : UInt8} (h : l.dropWhile p = c :: r) : (l ++ X).dropWhile p = c :: (r ++ X) := by
  induction l with
  | nil => cases h
  | cons d l ih =>
    rw [List.dropWhile_cons] at h
    split at h
    · rename_i hc
      rw [List.cons_append, List.dropWhile_cons, if_pos hc, ih h]
    · rename_i hc
      cases h
      rw [List.cons_append, List.dropWhile_cons, if_neg hc]
theorem lex_app : ∀ (m : Nat) {n : Nat} {acc L : List Tok} {l X : List UInt8}, l.length ≤ m → Bl X → l.length ≤ n → lexL n acc l = .ok L → lexL (n + X.length) acc (l ++ X) = lexL (n + X.length) L X := by
  intro m
  induction m with
  | zero =>
    intro n acc L l X hm _ _ h
    have : l = [] := List.eq_nil_of_length_eq_zero (by omega)
    subst this
    rw [lex_end rfl] at h
    cases h
    rfl
  | succ m ih =>
    intro n acc L l X hm hX hn h
    cases hl : l.dropWhile blankB with
    | nil =>
      rw [lex_end hl] at h
      cases h
      exact lex_same (dw_all hl)
    | cons c r =>
      have hd := dw_len blankB l
      rw [hl] at hd
      cases ho : one (c :: r) with
      | none => rw [lex_bad hl ho] at h; cases h
      | some p =>
        obtain ⟨k, t, q⟩ := p
        rw [lex_step hl ho] at h
        have h1 := one_len ho
        rw [lex_step (dw_some hl) (one_app hX ho)]
        have hp : n + X.length - (c :: (r ++ X)).length = n - (c :: r).length := by simp; omega
        rw [hp]
        exact ih (by omega) hX (by omega) h
def shift (d : Nat) (t : Tok) : Tok := (t.1, t.2.1, t.2.2 + d)
theorem lex_shift : ∀ (m : Nat) {n d : Nat} {P acc L : List Tok} {l : List UInt8}, l.length ≤ m → l.length ≤ n → lexL n acc l = .ok L → lexL (n + d) (P ++ acc.map (shift d)) l = .ok (P ++ L.map (shift d)) := by
  intro m
  induction m with
  | zero =>
    intro n d P acc L l hm _ h
    have : l = [] := List.eq_nil_of_length_eq_zero (by omega)
    subst this
    rw [lex_end rfl] at h
    cases h
    exact lex_end rfl
  | succ m ih =>
    intro n d P acc L l hm hn h
    cases hl : l.dropWhile blankB with
    | nil =>
      rw [lex_end hl] at h
      cases h
      exact lex_end hl
    | cons c r =>
      have hd := dw_len blankB l
      rw [hl] at hd
      cases ho : one (c :: r) with
      | none => rw [lex_bad hl ho] at h; cases h
      | some p =>
        obtain ⟨k, t, q⟩ := p
        rw [lex_step hl ho] at h
        have h1 := one_len ho
        rw [lex_step hl ho]
        have := ih (P := P) (d := d) (by omega) (by omega) h
        rw [← this, List.map_append, List.append_assoc]
        have e : (((n + d - (c :: r).length : Nat)) : Int) = ((n - (c :: r).length : Nat) : Int) + d := by omega
        rw [e]
        rfl
theorem tokens_ok {s : List UInt8} {L : List Tok} (h : lexL s.length [] s = .ok L) (hl : s.length ≤ 65536) : tokens s = (.ok L, 0) := by
  rw [tokens, if_neg (by omega), h]; rfl
theorem tokens_err0 {s : List UInt8} (h : (tokens s).2 = 0) : ∃ L, tokens s = (.ok L, 0) ∧ lexL s.length [] s = .ok L := by
  unfold tokens at h ⊢
  split at h
  · cases h
  · rename_i hb
    rw [if_neg hb]
    cases hl : lexL s.length [] s with
    | ok L => exact ⟨L, rfl, rfl⟩
    | error p => rw [hl] at h; cases h
theorem tokens_join {a b : List UInt8} {La Lb : List Tok} (ha : tokens a = (.ok La, 0)) (hb : tokens b = (.ok Lb, 0)) (hl : a.length + b.length ≤ 65000) :
    tokens (a ++ 32 :: b) = (.ok (La ++ Lb.map (shift (a.length + 1))), 0) := by
  obtain ⟨L, h1, h2⟩ := tokens_err0 (s := a) (by rw [ha])
  rw [ha] at h1
  cases h1
  obtain ⟨L, h3, h4⟩ := tokens_err0 (s := b) (by rw [hb])
  rw [hb] at h3
  cases h3
  refine tokens_ok ?_ (by simp; omega)
  rw [show (a ++ 32 :: b).length = a.length + (32 :: b).length by simp, lex_app _ (Nat.le_refl _) ⟨b, rfl⟩ (Nat.le_refl _) h2, lex_blank (by decide)]
  have := lex_shift (P := La) (d := a.length + 1) _ (Nat.le_refl _) (Nat.le_refl _) h4
  rw [show a.length + (32 :: b).length = b.length + (a.length + 1) by simp; omega]
  simpa using this
/-- A text of blanks has no tokens. -/
theorem tokens_blanks (m : Nat) : tokens (List.replicate m 32) = if 65536 < m then (.error 0, 4) else (.ok [], 0) := by
  rw [tokens, List.length_replicate]
  split
  · rfl
  · rw [lex_end]
    · rfl
    · induction m with
      | zero => rfl
      | succ m ih =>
        rw [List.replicate_succ, List.dropWhile_cons, if_pos (by decide)]
        exact ih (by omega)
theorem numR_sevens (m : Nat) : numR false (List.replicate m 55) = [] := by
  induction m with
  | zero => rfl
  | succ m ih => rw [List.replicate_succ, numR, if_pos (by decide), ih]
theorem tokens_sevens (m : Nat) (hm : 1 ≤ m) (hm2 : m ≤ 60) : tokens (120 :: 32 :: List.replicate m 55) = if m ≤ 40 then (.ok [(1, ofL [120], 0), (3, ofL (List.replicate m 55), 2)], 0) else (.error 2, 2) := by
  rw [tokens, if_neg (by simp; omega)]
  have e : ((120 : UInt8) :: 32 :: List.replicate m 55).length = m + 2 := by simp
  rw [e]
  have h1 : one (120 :: 32 :: List.replicate m 55) = some (1, [120], 32 :: List.replicate m 55) := by
    show one1 120 (32 :: List.replicate m 55) = _
    rw [one1, if_pos (by decide)]
    rw [show ((32 : UInt8) :: List.replicate m 55).dropWhile wordB = 32 :: List.replicate m 55 by rw [List.dropWhile_cons, if_neg (by decide)], pre_one]
  rw [lex_step (c := 120) (r := 32 :: List.replicate m 55) (by rw [List.dropWhile_cons, if_neg (by decide)]) h1]
  rw [show (m + 2 - ((120 : UInt8) :: 32 :: List.replicate m 55).length) = 0 by simp]
  obtain ⟨j, rfl⟩ : ∃ j, m = j + 1 := ⟨m - 1, by omega⟩
  have hd : ((32 : UInt8) :: List.replicate (j + 1) 55).dropWhile blankB = 55 :: List.replicate j 55 := by
    rw [List.dropWhile_cons, if_pos (by decide), List.replicate_succ, List.dropWhile_cons, if_neg (by decide)]
  have h2 : one (55 :: List.replicate j 55) = if j + 1 ≤ 40 then some (3, List.replicate (j + 1) 55, []) else none := by
    show one1 55 (List.replicate j 55) = _
    rw [one1, if_neg (by decide), if_pos (by rw [show digitB 55 = true by decide]; rfl), numR_sevens]
    simp [pre, List.replicate_succ]
  have e2 : j + 1 + 2 - ((55 : UInt8) :: List.replicate j 55).length = 2 := by simp
  by_cases h40 : j + 1 ≤ 40
  · rw [if_pos h40] at h2
    rw [if_pos h40, lex_step hd h2, lex_end rfl, e2]
    rfl
  · rw [if_neg h40] at h2
    rw [if_neg h40, lex_bad hd h2, e2]
    rfl
theorem quoted_body (q : UInt8) (hq : q.toNat ≠ 92) (X : List UInt8) : ∀ (l acc : List UInt8), quotedL q acc (qbody q l ++ q :: X) = some (acc ++ l, X)
  | [], acc => by simpa [qbody] using quoted_end q acc X
  | c :: l, acc => by
    have ih := quoted_body q hq X l (acc ++ [c])
    have e : qbody q (c :: l) = qe q c ++ qbody q l := by simp [qbody]
    rw [e]
    unfold qe
    by_cases hc : c = q ∨ c.toNat = 92
    · rw [if_pos hc]
      simp only [List.cons_append, List.nil_append]
      rw [quoted_esc _ _ _ _ _ (fun h => hq (by rw [← h]; rfl)) (by decide) hc, ih]
      simp
    · rw [if_neg hc]
      simp only [List.cons_append, List.nil_append]
      rw [quoted_plain _ _ _ _ (fun h => hc (.inl h)) (fun h => hc (.inr h)), ih]
      simp
theorem one_quoted (q : UInt8) (hq : quoteB q = true) (l X : List UInt8) : one (qtext q l ++ X) = some (if q.toNat = 39 then 4 else 2, l, X) := by
  have h92 : q.toNat ≠ 92 := by simp [quoteB] at hq; omega
  have hlt : letterB q = false := by
    cases h : letterB q with
    | false => rfl
    | true => simp [letterB] at h; simp [quoteB] at hq; omega
  have hdg : digitB q = false := by
    cases h : digitB q with
    | false => rfl
    | true => simp [digitB] at h; simp [quoteB] at hq; omega
  have hmn : ∀ r, minus q r = false := fun r => by
    simp [quoteB] at hq
    simp only [minus, Bool.and_eq_false_iff, decide_eq_false_iff_not]
    left; omega
  have e : qtext q l ++ X = q :: (qbody q l ++ q :: X) := by simp [qtext]
  rw [e]
  show one1 q _ = _
  rw [one1, if_neg (by simp [hlt]), if_neg (by simp [hdg, hmn]), if_pos hq, quoted_body q h92]
  rfl
end Go.Proofs.Ytcmdcdjclmpncaa
