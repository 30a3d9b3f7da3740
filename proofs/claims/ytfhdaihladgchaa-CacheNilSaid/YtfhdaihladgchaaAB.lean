/- The document's table as a table in order; ranges as filters. Condition: the points of a column rise. -/
import Derived.Test.YtfhdaihladgchaaAA
namespace Go.Proofs.Ytfhdaihladgchaa
open Go.RowKit Go.WideMaps Go.Sort
theorem atI_cons (x : RC) (r : List RC) (s f : ByteArray) : atI (x :: r) s f = if ltP s f (pc x) then atI r s f + 1 else 0 := by
  have h : atB s f x = ltP s f (pc x) := rfl
  unfold atI
  rw [List.takeWhile_cons, h]
  split <;> rfl
theorem hereB_cons (x : RC) (r : List RC) (s f : ByteArray) : hereB (x :: r) s f = if ltP s f (pc x) then hereB r s f else eqP s f (pc x) := by
  unfold hereB
  rw [atI_cons]
  cases h : ltP s f (pc x) with
  | true => simp
  | false => rfl
theorem at_found {s f : ByteArray} (l : List Pt) : ∀ {R : List RC}, hereB R s f = true → ∃ x, R[atI R s f]? = some x ∧ eqP s f (pc x) = true ∧ upd s f l (R.map pc) = (R.map pc).set (atI R s f) (x.se, x.fi, l)
  | [], h => by simp [hereB, atI] at h
  | x :: r, h => by
    rw [hereB_cons] at h
    rw [atI_cons]
    simp only [List.map_cons, upd]
    cases h1 : ltP s f (pc x) with
    | true =>
      rw [h1] at h
      obtain ⟨y, hy, he, hu⟩ := at_found l (R := r) (by simpa using h)
      refine ⟨y, by simpa using hy, he, ?_⟩
      simp only [if_true]
      rw [hu]; rfl
    | false =>
      rw [h1] at h
      have h2 : eqP s f (pc x) = true := by simpa using h
      refine ⟨x, rfl, h2, ?_⟩
      rw [h2]; rfl
theorem at_not {s f : ByteArray} (l : List Pt) : ∀ {R : List RC}, hereB R s f = false → upd s f l (R.map pc) = (R.map pc).take (atI R s f) ++ (s, f, l) :: (R.map pc).drop (atI R s f)
  | [], h => rfl
  | x :: r, h => by
    rw [hereB_cons] at h
    rw [atI_cons]
    simp only [List.map_cons, upd]
    cases h1 : ltP s f (pc x) with
    | true =>
      rw [h1] at h
      have hu := at_not l (R := r) (by simpa using h)
      simp only [if_true]
      rw [hu]; rfl
    | false =>
      rw [h1] at h
      have h2 : eqP s f (pc x) = false := by simpa using h
      rw [h2]; rfl
theorem at_pts {s f : ByteArray} : ∀ {R : List RC}, Sorted (R.map pc) → atL R s f = ptsP (R.map pc) s f
  | [], _ => by simp [atL, hereB, atI, ptsP]
  | x :: r, h => by
    have h0 : Sorted (pc x :: r.map pc) := h
    have ih := at_pts (s := s) (f := f) (R := r) (sorted_tail h0)
    rw [List.map_cons, ptsP_cons]
    unfold atL at ih ⊢
    rw [hereB_cons, atI_cons]
    cases h1 : ltP s f (pc x) with
    | true =>
      rw [lt_not_eq h1]
      simpa using ih
    | false =>
      cases h2 : eqP s f (pc x) with
      | true => simp [pc]
      | false =>
        rw [ptsP_none (none_behind h0 h1)]
        simp
theorem here_pts {R : List RC} {s f : ByteArray} (h : hereB R s f = false) : atL R s f = [] := by unfold atL; rw [h]; rfl
theorem rtot_pc (R : List RC) : rtot R = totP (R.map pc) := by unfold rtot totP; rw [List.map_map]; rfl
theorem lo_cons (x : Pt) (r : List Pt) (t : Int) : loI (x :: r) t = if x.t < t then loI r t + 1 else 0 := by
  unfold loI
  rw [List.takeWhile_cons]
  by_cases h : x.t < t <;> simp [h]
theorem hi_cons (x : Pt) (r : List Pt) (t : Int) : hiI (x :: r) t = if x.t ≤ t then hiI r t + 1 else 0 := by
  unfold hiI
  rw [List.takeWhile_cons]
  by_cases h : x.t ≤ t <;> simp [h]
theorem lo_zero {r : List Pt} {a : Int} (h : ∀ y ∈ r, a ≤ y.t) : loI r a = 0 := lo_first h
theorem filter_none {l : List Pt} {q : Pt → Bool} (h : ∀ y ∈ l, q y = false) : l.filter q = [] := List.filter_eq_nil_iff.2 fun y hy => by rw [h y hy]; exact Bool.false_ne_true
theorem filter_whole {l : List Pt} {q : Pt → Bool} (h : ∀ y ∈ l, q y = true) : l.filter q = l := List.filter_eq_self.2 h
theorem inR_hi {a b : Int} {p : Pt} (h : b < p.t) : inR a b p = false := by unfold inR; rw [decide_eq_false (show ¬ p.t ≤ b by omega), Bool.and_false]
theorem inR_lo {a b : Int} {p : Pt} (h : p.t < a) : inR a b p = false := by unfold inR; rw [decide_eq_false (show ¬ a ≤ p.t by omega), Bool.false_and]
theorem inR_in {a b : Int} {p : Pt} (h : a ≤ p.t) (h' : p.t ≤ b) : inR a b p = true := by unfold inR; rw [decide_eq_true h, decide_eq_true h']; rfl
theorem rng_filter {a b : Int} : ∀ {l : List Pt}, Rises l → rng l a b = l.filter (inR a b)
  | [], _ => by simp [rng]
  | x :: r, h => by
    have h0 := List.pairwise_cons.1 h
    have ih := rng_filter (a := a) (b := b) h0.2
    unfold rng endI at ih ⊢
    rw [lo_cons, hi_cons]
    by_cases h1 : x.t < a
    · rw [if_pos h1, List.filter_cons, inR_lo h1]
      by_cases h2 : x.t ≤ b
      · rw [if_pos h2]
        have : max (loI r a + 1) (hiI r b + 1) - (loI r a + 1) = max (loI r a) (hiI r b) - loI r a := by omega
        rw [this]
        simpa using ih
      · rw [if_neg h2]
        have : max (loI r a + 1) 0 - (loI r a + 1) = 0 := by omega
        rw [this]
        have := filter_none (l := r) (q := inR a b) (fun y hy => inR_hi (by have := h0.1 y hy; omega))
        rw [this]; simp
    · rw [if_neg h1]
      by_cases h2 : x.t ≤ b
      · rw [if_pos h2, List.filter_cons, inR_in (by omega) h2]
        have h3 : loI r a = 0 := lo_zero fun y hy => by have := h0.1 y hy; omega
        rw [h3] at ih
        have e1 : max 0 (hiI r b + 1) - 0 = hiI r b + 1 := by omega
        have e2 : max 0 (hiI r b) - 0 = hiI r b := by omega
        rw [e2] at ih
        rw [e1]
        simp at ih ⊢
        exact ih
      · rw [if_neg h2]
        have := filter_none (l := x :: r) (q := inR a b) (fun y hy => inR_hi (by
          rcases List.mem_cons.1 hy with rfl | hy
          · omega
          · have := h0.1 y hy; omega))
        rw [this]; simp
theorem keep_not (a b : Int) (p : Pt) : keep a b p = !inR a b p := rfl
theorem cutL_filter {a b : Int} : ∀ {l : List Pt}, Rises l → cutL l a b = l.filter (keep a b)
  | [], _ => by simp [cutL]
  | x :: r, h => by
    have h0 := List.pairwise_cons.1 h
    have ih := cutL_filter (a := a) (b := b) h0.2
    unfold cutL endI at ih ⊢
    rw [lo_cons, hi_cons]
    by_cases h1 : x.t < a
    · rw [if_pos h1]
      by_cases h2 : x.t ≤ b
      · rw [if_pos h2, List.filter_cons, keep_not, inR_lo h1]
        have : max (loI r a + 1) (hiI r b + 1) = max (loI r a) (hiI r b) + 1 := by omega
        rw [this]
        simpa using ih
      · rw [if_neg h2]
        have : max (loI r a + 1) 0 = loI r a + 1 := by omega
        rw [this, List.take_append_drop, filter_whole]
        intro y hy
        rw [keep_not, inR_hi]; rfl
        rcases List.mem_cons.1 hy with rfl | hy
        · omega
        · have := h0.1 y hy; omega
    · rw [if_neg h1]
      by_cases h2 : x.t ≤ b
      · rw [if_pos h2, List.filter_cons, keep_not, inR_in (by omega) h2]
        have h3 : loI r a = 0 := lo_zero fun y hy => by have := h0.1 y hy; omega
        rw [h3] at ih
        have e1 : max 0 (hiI r b + 1) = hiI r b + 1 := by omega
        have e2 : max 0 (hiI r b) = hiI r b := by omega
        rw [e2] at ih
        rw [e1]
        simp at ih ⊢
        exact ih
      · rw [if_neg h2]
        have : max 0 0 = 0 := rfl
        rw [this, List.take_append_drop, filter_whole]
        intro y hy
        rw [keep_not, inR_hi]; rfl
        rcases List.mem_cons.1 hy with rfl | hy
        · omega
        · have := h0.1 y hy; omega
theorem rng_len (l : List Pt) (a b : Int) : (rng l a b).length = endI l a b - loI l a := by
  unfold rng
  rw [List.length_take, List.length_drop]
  have := end_le l a b
  omega
/-- How many points of one time there are. -/
theorem there_count {l : List Pt} {t : Int} (h : Rises l) : ((l.filter (inR t t)).length = 0) ↔ thereB l t = false := by
  rw [← rng_filter h, rng_len]
  unfold endI thereB
  rw [decide_eq_false_iff_not]
  have : (max (loI l t) (hiI l t) - loI l t = 0) ↔ ¬ loI l t < hiI l t := by omega
  exact this
theorem takeWhile_stop {α : Type} (q : α → Bool) : ∀ (l : List α) (x : α), l[(l.takeWhile q).length]? = some x → q x = false
  | [], x, h => by simp at h
  | y :: r, x, h => by
    rw [List.takeWhile_cons] at h
    cases hq : q y with
    | true =>
      rw [hq] at h
      exact takeWhile_stop q r x (by simpa using h)
    | false =>
      rw [hq] at h
      simp at h
      rw [← h]; exact hq
theorem there_at : ∀ {l : List Pt} {t : Int}, Rises l → thereB l t = (match l[loI l t]? with | some q => decide (q.t = t) | none => false)
  | [], t, _ => by simp [thereB, loI, hiI]
  | x :: r, t, h => by
    have h0 := List.pairwise_cons.1 h
    have ih := there_at (l := r) (t := t) h0.2
    unfold thereB at ih ⊢
    rw [lo_cons, hi_cons]
    by_cases h1 : x.t < t
    · rw [if_pos h1, if_pos (show x.t ≤ t by omega)]
      rw [List.getElem?_cons_succ, ← ih]
      simp
    · rw [if_neg h1]
      by_cases h2 : x.t ≤ t
      · rw [if_pos h2]
        have : x.t = t := by omega
        simp [this]
      · rw [if_neg h2]
        have : ¬ x.t = t := by omega
        simp [this]
theorem takeWhile_mem {α : Type} (q : α → Bool) : ∀ (l : List α) (x : α), x ∈ l.takeWhile q → q x = true
  | [], x, h => by simp at h
  | y :: r, x, h => by
    rw [List.takeWhile_cons] at h
    cases hq : q y with
    | true =>
      rw [hq] at h
      rcases List.mem_cons.1 h with rfl | h
      · exact hq
      · exact takeWhile_mem q r x h
    | false =>
      rw [hq] at h
      cases h
theorem putK_putL {l : List Pt} {p : Pt} (h : Rises l) : putK l p = putL l p := by
  have ht := there_at (t := p.t) h
  unfold putK putL
  cases hq : l[loI l p.t]? with
  | none =>
    rw [hq] at ht
    rw [ht]; simp
  | some q =>
    rw [hq] at ht
    have h1 : loI l p.t < l.length := (List.getElem?_eq_some_iff.1 hq).1
    by_cases hd : q.t = p.t
    · have ht' : thereB l p.t = true := by rw [ht]; simp [hd]
      rw [ht', List.set_eq_take_append_cons_drop, if_pos h1]
      simp [hd]
    · have ht' : thereB l p.t = false := by rw [ht]; simp [hd]
      rw [ht']
      simp [hd]
theorem putL_one (p : Pt) : putL [] p = [p] := by simp [putL, thereB, loI, hiI]
theorem rises_putL {l : List Pt} {p : Pt} (h : Rises l) : Rises (putL l p) := by
  unfold putL
  cases ht : thereB l p.t with
  | true =>
    simp only [if_true]
    rw [there_at h] at ht
    cases hq : l[loI l p.t]? with
    | none => rw [hq] at ht; cases ht
    | some q =>
      rw [hq] at ht
      obtain ⟨h1, h2⟩ := List.getElem?_eq_some_iff.1 hq
      exact rises_set h ⟨h1, by rw [h2]; exact of_decide_eq_true ht⟩
  | false =>
    simp only [Bool.false_eq_true, if_false]
    refine rises_put h ⟨loI_le l p.t, fun j hj hlt => ?_, fun j hj hle => ?_, ?_⟩
    · have h1 : (l.takeWhile fun x => decide (x.t < p.t))[j]? = some l[j] := by
        have hp := List.takeWhile_prefix (l := l) (fun x => decide (x.t < p.t))
        have hlt' : j < (l.takeWhile fun x => decide (x.t < p.t)).length := hlt
        rw [List.getElem?_eq_getElem hlt', hp.getElem hlt']
      have h2 := takeWhile_mem _ _ _ (List.mem_of_getElem? h1)
      exact of_decide_eq_true h2
    · have hl : loI l p.t < l.length := by omega
      have h1 := takeWhile_stop (fun x : Pt => decide (x.t < p.t)) l l[loI l p.t] (List.getElem?_eq_getElem (i := loI l p.t) hl)
      have h2 : ¬ l[loI l p.t].t < p.t := of_decide_eq_false h1
      rcases Nat.lt_or_eq_of_le hle with h3 | h3
      · have := (List.pairwise_iff_getElem.1 h) _ j hl hj h3
        omega
      · have e : l[j] = l[loI l p.t] := by congr 1; exact h3.symm
        rw [e]; omega
    · rw [there_at h] at ht
      constructor
      · intro e; cases e
      · rintro ⟨hi, he⟩
        rw [List.getElem?_eq_getElem hi] at ht
        simp [he] at ht
theorem putL_ne (l : List Pt) (p : Pt) : putL l p ≠ [] := by
  intro e
  unfold putL at e
  cases ht : thereB l p.t with
  | true =>
    rw [ht] at e
    simp only [if_true] at e
    have := congrArg List.length e
    simp at this
    rw [this] at ht
    simp [thereB, loI, hiI] at ht
  | false =>
    rw [ht] at e
    simp at e
end Go.Proofs.Ytfhdaihladgchaa
