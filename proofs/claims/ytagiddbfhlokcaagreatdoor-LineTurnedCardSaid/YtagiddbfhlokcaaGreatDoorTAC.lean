/- Several texts of this proof, laid together. Conditions: as each says. -/
import Derived.Test.YtagiddbfhlokcaaGreatDoorTAB
import Derived.Lib.SmallJoins
import Derived.Lib.Builder
import Derived.Deep.LoopGhost
import Derived.IntWalk
/- The slow way's shift to the left: how many digits it brings. No condition. -/
namespace PF
theorem val_foldl (ds : List Nat) (n : Nat) : ds.foldl (fun n d => n * 10 + d) n = n * 10 ^ ds.length + val ds := by
  induction ds generalizing n with
  | nil => simp [val]
  | cons d t ih =>
    simp only [List.foldl_cons, List.length_cons, val]
    rw [ih, ih (0 * 10 + d), Nat.pow_succ]
    simp only [Nat.zero_mul, Nat.zero_add, Nat.add_mul]
    have : n * 10 * 10 ^ t.length = n * (10 ^ t.length * 10) := by rw [Nat.mul_assoc, Nat.mul_comm 10]
    omega
theorem val_cons (d : Nat) (t : List Nat) : val (d :: t) = d * 10 ^ t.length + val t := by
  have := val_foldl t d
  unfold val at *
  simp only [List.foldl_cons, Nat.zero_mul, Nat.zero_add]
  exact this
theorem val_append (a b : List Nat) : val (a ++ b) = val a * 10 ^ b.length + val b := by
  have := val_foldl b (val a)
  unfold val at *
  rw [List.foldl_append]
  exact this
theorem val_lt {ds : List Nat} (h : ∀ d ∈ ds, d ≤ 9) : val ds < 10 ^ ds.length := by
  induction ds with
  | nil => simp [val]
  | cons d t ih =>
    have h1 := ih fun x hx => h x (List.mem_cons_of_mem _ hx)
    have h2 := h d (List.mem_cons_self ..)
    rw [val_cons, List.length_cons, Nat.pow_succ]
    have : d * 10 ^ t.length ≤ 9 * 10 ^ t.length := Nat.mul_le_mul_right _ h2
    omega
theorem val_ge {d : Nat} {t : List Nat} (h : d ≠ 0) : 10 ^ t.length ≤ val (d :: t) := by
  rw [val_cons]
  have : 1 * 10 ^ t.length ≤ d * 10 ^ t.length := Nat.mul_le_mul_right _ (by omega)
  omega
/-- Is the first list less, where the second is laid beside it? -/
def plt : List Nat → List Nat → Bool
  | _, [] => false
  | [], _ :: _ => true
  | b :: bs, s :: ss => if b = s then plt bs ss else decide (b < s)
theorem val_pos : ∀ (s : Nat) (ss : List Nat), (s :: ss).getLast? ≠ some 0 → 0 < val (s :: ss)
  | s, [], h => by simp [val] at *; omega
  | s, a :: t, h => by
    have := val_pos a t (by simpa using h)
    rw [val_cons]
    omega
theorem plt_iff : ∀ (b s : List Nat), (∀ d ∈ b, d ≤ 9) → (∀ d ∈ s, d ≤ 9) → (s ≠ [] → s.getLast? ≠ some 0) → (plt b s = true ↔ val b * 10 ^ s.length < val s * 10 ^ b.length)
  | b, [], hb, _, _ => by
    simp [plt, val]
  | [], s :: ss, _, _, hl => by
    simp only [plt, true_iff, List.length_nil, Nat.pow_zero, Nat.mul_one]
    simp only [val, List.foldl_nil, Nat.zero_mul]
    show 0 < val (s :: ss)
    exact val_pos s ss (hl (by simp))
  | b :: bs, s :: ss, hb, hs, hl => by
    have b1 := val_lt fun x hx => hb x (List.mem_cons_of_mem _ hx)
    have s1 := val_lt fun x hx => hs x (List.mem_cons_of_mem _ hx)
    have hB := Nat.two_pow_pos 1
    rw [val_cons, val_cons, List.length_cons, List.length_cons, Nat.pow_succ, Nat.pow_succ]
    have pB : 0 < 10 ^ bs.length := Nat.pow_pos (by omega)
    have pS : 0 < 10 ^ ss.length := Nat.pow_pos (by omega)
    unfold plt
    by_cases e : b = s
    · subst e
      rw [if_pos rfl]
      have hl' : ss ≠ [] → ss.getLast? ≠ some 0 := by
        intro hne
        have := hl (by simp)
        cases ss with
        | nil => exact absurd rfl hne
        | cons a t => simpa using this
      have ih := plt_iff bs ss (fun x hx => hb x (List.mem_cons_of_mem _ hx)) (fun x hx => hs x (List.mem_cons_of_mem _ hx)) hl'
      rw [ih]
      generalize 10 ^ bs.length = B at *
      generalize 10 ^ ss.length = S at *
      have e1 : (b * B + val bs) * (S * 10) = 10 * (b * B * S + val bs * S) := by rw [Nat.add_mul, Nat.mul_comm S 10, ← Nat.mul_assoc, ← Nat.mul_assoc, Nat.mul_comm (b * B) 10, Nat.mul_comm (val bs) 10, Nat.mul_assoc, Nat.mul_assoc 10 (val bs), ← Nat.mul_add]
      have e2 : (b * S + val ss) * (B * 10) = 10 * (b * S * B + val ss * B) := by rw [Nat.add_mul, Nat.mul_comm B 10, ← Nat.mul_assoc, ← Nat.mul_assoc, Nat.mul_comm (b * S) 10, Nat.mul_comm (val ss) 10, Nat.mul_assoc, Nat.mul_assoc 10 (val ss), ← Nat.mul_add]
      have e3 : b * B * S = b * S * B := by rw [Nat.mul_assoc, Nat.mul_assoc, Nat.mul_comm B S]
      rw [e1, e2, e3]
      constructor <;> intro h <;> omega
    · rw [if_neg e]
      generalize hBv : 10 ^ bs.length = B at *
      generalize hSv : 10 ^ ss.length = S at *
      simp only [decide_eq_true_eq]
      have key (x y X Y u v : Nat) (hxy : x < y) (hu : u < X) (hv : v < Y) : (x * X + u) * (Y * 10) < (y * Y + v) * (X * 10) := by
        have h1 : x * X + u < (x + 1) * X := by rw [Nat.add_mul]; omega
        have h2 : (x * X + u) * (Y * 10) < (x + 1) * X * (Y * 10) := Nat.mul_lt_mul_of_pos_right h1 (by omega)
        have h3 : (x + 1) * X * (Y * 10) ≤ y * X * (Y * 10) := Nat.mul_le_mul_right _ (Nat.mul_le_mul_right _ hxy)
        have h4 : y * X * (Y * 10) = y * Y * (X * 10) := by
          rw [Nat.mul_assoc, Nat.mul_assoc, Nat.mul_left_comm X Y]
        have h5 : y * Y * (X * 10) ≤ (y * Y + v) * (X * 10) := Nat.mul_le_mul_right _ (by omega)
        omega
      constructor
      · intro h
        exact key b s B S (val bs) (val ss) h b1 s1
      · intro h
        by_cases h2 : b < s
        · exact h2
        · have := key s b S B (val ss) (val bs) (by omega) s1 b1
          omega
/-- The number of digits of a product by a power of two. -/
theorem grow_bounds {v L k C K : Nat} (h0 : 10 ^ (L - 1) ≤ v) (h1 : v < 10 ^ L) (hL : 1 ≤ L) (hC : C ≤ k) (hlo : 10 ^ (C - 1) ≤ 5 ^ k) (hhi : 5 ^ k < 10 ^ C) (hC1 : 1 ≤ C)
    (hK : K = L + (k - C + 1) - (if v * 10 ^ C < 5 ^ k * 10 ^ L then 1 else 0)) : 10 ^ (K - 1) ≤ v * 2 ^ k ∧ v * 2 ^ k < 10 ^ K := by
  have e10 : 5 ^ k * 2 ^ k = 10 ^ k := by rw [← Nat.mul_pow]
  have p5 : 0 < 5 ^ k := Nat.pow_pos (by omega)
  have p2 : 0 < 2 ^ k := Nat.pow_pos (by omega)
  split at hK
  · rename_i hp
    have hK : K = L + (k - C) := by omega
    constructor
    · -- v * 2^k ≥ 10^(L-1) * 2^k > 10^(L-1+k-C)
      have a1 : 10 ^ (k - C) * 10 ^ C < 2 ^ k * 10 ^ C := by
        rw [← Nat.pow_add, show k - C + C = k by omega, ← e10, Nat.mul_comm]
        exact Nat.mul_lt_mul_of_pos_left hhi p2
      have a2 : 10 ^ (k - C) < 2 ^ k := Nat.lt_of_mul_lt_mul_right a1
      calc 10 ^ (K - 1) = 10 ^ (L - 1) * 10 ^ (k - C) := by rw [← Nat.pow_add]; congr 1; omega
        _ ≤ v * 2 ^ k := Nat.mul_le_mul h0 (by omega)
    · have a1 : v * 10 ^ C * 2 ^ k < 5 ^ k * 10 ^ L * 2 ^ k := Nat.mul_lt_mul_of_pos_right hp p2
      have a2 : 5 ^ k * 10 ^ L * 2 ^ k = 10 ^ K * 10 ^ C := by
        rw [Nat.mul_right_comm, e10, ← Nat.pow_add, ← Nat.pow_add]; congr 1; omega
      rw [a2, Nat.mul_right_comm] at a1
      exact Nat.lt_of_mul_lt_mul_right a1
  · rename_i hp
    have hK : K = L + (k - C) + 1 := by omega
    constructor
    · have a1 : 5 ^ k * 10 ^ L * 2 ^ k ≤ v * 10 ^ C * 2 ^ k := Nat.mul_le_mul_right _ (by omega)
      have a2 : 5 ^ k * 10 ^ L * 2 ^ k = 10 ^ (K - 1) * 10 ^ C := by
        rw [Nat.mul_right_comm, e10, ← Nat.pow_add, ← Nat.pow_add]; congr 1; omega
      rw [a2, Nat.mul_right_comm] at a1
      exact Nat.le_of_mul_le_mul_right a1 (Nat.pow_pos (by omega))
    · have a1 : 2 ^ k * 10 ^ (C - 1) ≤ 10 ^ (k - C + 1) * 10 ^ (C - 1) := by
        rw [← Nat.pow_add, show k - C + 1 + (C - 1) = k by omega, ← e10, Nat.mul_comm (5 ^ k)]
        exact Nat.mul_le_mul_left _ hlo
      have a2 : 2 ^ k ≤ 10 ^ (k - C + 1) := Nat.le_of_mul_le_mul_right a1 (Nat.pow_pos (by omega))
      calc v * 2 ^ k < 10 ^ L * 2 ^ k := Nat.mul_lt_mul_of_pos_right h1 p2
        _ ≤ 10 ^ L * 10 ^ (k - C + 1) := Nat.mul_le_mul_left _ a2
        _ = 10 ^ K := by rw [← Nat.pow_add]; congr 1; omega
end PF
/- Decimals under shifts: what stays true of them, and that the loops end. No condition. -/
namespace PF
theorem dgs_pos {n : Nat} (h : n ≠ 0) : dgs n = dgs (n / 10) ++ [n % 10] := by rw [dgs, if_neg h]
theorem dgs_zero : dgs 0 = [] := by rw [dgs, if_pos rfl]
theorem dgs_len : ∀ (n : Nat), n ≠ 0 → 10 ^ ((dgs n).length - 1) ≤ n ∧ n < 10 ^ (dgs n).length ∧ 1 ≤ (dgs n).length := by
  intro n
  induction n using Nat.strongRecOn with
  | ind n ih =>
    intro hn
    rw [dgs_pos hn, List.length_append, List.length_singleton, Nat.add_sub_cancel, Nat.pow_succ]
    by_cases h : n / 10 = 0
    · rw [h, dgs_zero]
      simp only [List.length_nil, Nat.pow_zero]
      omega
    · obtain ⟨h1, h2, h3⟩ := ih (n / 10) (by omega) h
      have e : 10 ^ (dgs (n / 10)).length = 10 ^ ((dgs (n / 10)).length - 1) * 10 := by rw [← Nat.pow_succ]; congr 1; omega
      refine ⟨by rw [e]; omega, by omega, by omega⟩
theorem dgs_len_eq {n K : Nat} (hK : 1 ≤ K) (h0 : 10 ^ (K - 1) ≤ n) (h1 : n < 10 ^ K) : (dgs n).length = K := by
  have hn : n ≠ 0 := by have := Nat.pow_pos (n := K - 1) (show 0 < 10 by omega); omega
  obtain ⟨a, b, c⟩ := dgs_len n hn
  have u := (Nat.pow_lt_pow_iff_right (show 1 < 10 by omega)).1 (Nat.lt_of_le_of_lt a h1)
  have v := (Nat.pow_lt_pow_iff_right (show 1 < 10 by omega)).1 (Nat.lt_of_le_of_lt h0 b)
  omega
theorem dgs_get : ∀ (n i : Nat), i < (dgs n).length → (dgs n)[i]? = some (n / 10 ^ ((dgs n).length - 1 - i) % 10) := by
  intro n
  induction n using Nat.strongRecOn with
  | ind n ih =>
    intro i hi
    by_cases hn : n = 0
    · subst hn; rw [dgs_zero] at hi; cases hi
    · have hl : (dgs n).length = (dgs (n / 10)).length + 1 := by rw [dgs_pos hn]; simp
      rw [hl] at hi ⊢
      rw [dgs_pos hn]
      by_cases he : i = (dgs (n / 10)).length
      · subst he
        rw [List.getElem?_append_right (Nat.le_refl _)]
        simp
      · rw [List.getElem?_append_left (by omega), ih (n / 10) (by omega) i (by omega), Nat.div_div_eq_div_mul, ← Nat.pow_succ']
        congr 4
        omega
theorem dgs_le (n : Nat) : ∀ d ∈ dgs n, d ≤ 9 := by
  intro d hd
  obtain ⟨i, hi, e⟩ := List.getElem_of_mem hd
  have := dgs_get n i hi
  rw [List.getElem?_eq_getElem hi, e] at this
  have := Option.some.inj this
  omega
theorem dgs_head {n : Nat} (h : n ≠ 0) : (dgs n).headD 0 = n / 10 ^ ((dgs n).length - 1) := by
  have h3 := dgs_len n h
  have h1 := dgs_get n 0 (by omega)
  have e : (dgs n).headD 0 = ((dgs n)[0]?).getD 0 := by cases dgs n <;> rfl
  rw [e, h1, Nat.sub_zero]
  have : n / 10 ^ ((dgs n).length - 1) < 10 := by
    have e2 : 10 ^ (dgs n).length = 10 * 10 ^ ((dgs n).length - 1) := by rw [← Nat.pow_succ']; congr 1; omega
    rw [Nat.div_lt_iff_lt_mul (Nat.pow_pos (by omega)), ← e2]
    exact h3.2.1
  simp only [Option.getD_some]
  exact Nat.mod_eq_of_lt this
/-- A decimal that is not nought: digits, the first is not nought, room for them. -/
structure Dec.Ok (a : Dec) : Prop where
  len : a.ds.length ≤ 800
  dig : ∀ d ∈ a.ds, d ≤ 9
  one : a.ds.headD 0 ≠ 0
theorem Dec.Ok.ne {a : Dec} (h : a.Ok) : a.ds ≠ [] := by intro e; exact h.one (by rw [e]; rfl)
theorem trimL_prefix (ds : List Nat) : ∃ t, ds = trimL ds ++ t ∧ ∀ x ∈ t, x = 0 := by
  refine ⟨(ds.reverse.takeWhile (· == 0)).reverse, ?_, ?_⟩
  · unfold trimL
    rw [← List.reverse_append, List.takeWhile_append_dropWhile, List.reverse_reverse]
  · intro x hx
    have := List.all_eq_true.1 (List.all_takeWhile (l := ds.reverse)) x (List.mem_reverse.1 hx)
    simpa using this
theorem trimL_head {ds : List Nat} (h : ds.headD 0 ≠ 0) : (trimL ds).headD 0 = ds.headD 0 := by
  obtain ⟨t, e, h0⟩ := trimL_prefix ds
  cases hx : trimL ds with
  | nil =>
    rw [hx, List.nil_append] at e
    subst e
    cases ds with
    | nil => exact absurd rfl h
    | cons a r => exact absurd (h0 a (List.mem_cons_self ..)) (by simpa using h)
  | cons a r =>
    rw [hx] at e
    conv => rhs; rw [e]
    rfl
theorem trim_ok {a : Dec} (h : a.Ok) : a.trim.Ok ∧ d0 a.trim = d0 a ∧ a.trim.dp = a.dp ∧ a.trim.tr = a.tr := by
  obtain ⟨t, e, _⟩ := trimL_prefix a.ds
  have hh := trimL_head h.one
  have hne : trimL a.ds ≠ [] := by intro e0; rw [e0] at hh; exact h.one hh.symm
  refine ⟨⟨?_, ?_, ?_⟩, hh, by unfold Dec.trim; rw [if_neg hne], rfl⟩
  · have := congrArg List.length e
    rw [List.length_append] at this
    have := h.len
    show (trimL a.ds).length ≤ 800
    omega
  · intro d hd
    exact h.dig d (by rw [e]; exact List.mem_append_left _ hd)
  · show (trimL a.ds).headD 0 ≠ 0
    rw [hh]; exact h.one
theorem Dec.Ok.val {a : Dec} (h : a.Ok) : 10 ^ (a.ds.length - 1) ≤ val a.ds ∧ val a.ds < 10 ^ a.ds.length ∧ 1 ≤ a.ds.length ∧ val a.ds ≠ 0 := by
  have h2 := val_lt h.dig
  have h1 := h.one
  revert h1 h2
  cases a.ds with
  | nil => intro _ h1; exact absurd rfl h1
  | cons d t =>
    intro h2 h1
    have h3 := val_ge (d := d) (t := t) (by simpa using h1)
    have := Nat.pow_pos (n := t.length) (show 0 < 10 by omega)
    exact ⟨by simpa using h3, h2, by simp, by omega⟩
theorem Dec.Ok.d0 {a : Dec} (h : a.Ok) : d0 a = PF.val a.ds / 10 ^ (a.ds.length - 1) ∧ 1 ≤ d0 a ∧ d0 a ≤ 9 := by
  unfold PF.d0
  have h1 := h.one
  have hd := h.dig
  revert h1 hd
  cases a.ds with
  | nil => intro h1; exact absurd rfl h1
  | cons d t =>
    intro h1 hd
    have ht := val_lt fun x hx => hd x (List.mem_cons_of_mem _ hx)
    refine ⟨?_, by have : d ≠ 0 := by simpa using h1
                   simp; omega, hd d (List.mem_cons_self ..)⟩
    rw [val_cons]
    simp only [List.headD_cons, List.length_cons, Nat.add_sub_cancel]
    rw [Nat.mul_comm, Nat.mul_add_div (Nat.pow_pos (by omega)), Nat.div_eq_of_lt ht, Nat.add_zero]
/-- To the left: what is made, before it is trimmed. -/
theorem lsh_ok {a : Dec} (h : a.Ok) (k : Nat) : (Dec.lsh a k).Ok ∧ d0 (a.lsh k) = val a.ds * 2 ^ k / 10 ^ ((dgs (val a.ds * 2 ^ k)).length - 1) ∧ (a.lsh k).dp = a.dp + (((dgs (val a.ds * 2 ^ k)).length : Int) - a.ds.length) := by
  obtain ⟨v1, v2, v3, v4⟩ := h.val
  have hn : val a.ds * 2 ^ k ≠ 0 := Nat.mul_ne_zero v4 (Nat.ne_of_gt (Nat.two_pow_pos _))
  have hh := dgs_head hn
  obtain ⟨l1, l2, l3⟩ := dgs_len _ hn
  have hp : 1 ≤ val a.ds * 2 ^ k / 10 ^ ((dgs (val a.ds * 2 ^ k)).length - 1) := (Nat.le_div_iff_mul_le (Nat.pow_pos (by omega))).2 (by omega)
  have ht : ((dgs (val a.ds * 2 ^ k)).take 800).headD 0 = (dgs (val a.ds * 2 ^ k)).headD 0 := by cases dgs (val a.ds * 2 ^ k) <;> rfl
  have ok : (Dec.mk ((dgs (val a.ds * 2 ^ k)).take 800) (a.dp + (((dgs (val a.ds * 2 ^ k)).length : Int) - a.ds.length)) (a.tr || ((dgs (val a.ds * 2 ^ k)).drop 800).any (· ≠ 0))).Ok := by
    refine ⟨by simp; omega, fun d hd => dgs_le _ d (List.mem_of_mem_take hd), ?_⟩
    show ((dgs (val a.ds * 2 ^ k)).take 800).headD 0 ≠ 0
    rw [ht, hh]; omega
  obtain ⟨o1, o2, o3, _⟩ := trim_ok ok
  refine ⟨o1, ?_, o3⟩
  have : d0 (a.lsh k) = ((dgs (val a.ds * 2 ^ k)).take 800).headD 0 := o2
  rw [this, ht, hh]
def muL (a : Dec) : Nat := 10 * (-a.dp).toNat + (9 - d0 a)
theorem powtab_lt (m : Nat) (h : 1 ≤ m) : 2 ^ powtab m < 10 ^ m ∧ 3 ≤ powtab m ∧ powtab m ≤ 27 := by
  by_cases h9 : m ≤ 8
  · have : m = 1 ∨ m = 2 ∨ m = 3 ∨ m = 4 ∨ m = 5 ∨ m = 6 ∨ m = 7 ∨ m = 8 := by omega
    rcases this with rfl | rfl | rfl | rfl | rfl | rfl | rfl | rfl <;> decide
  · have e : powtab m = 27 := by
      unfold powtab
      split <;> first | rfl | omega
    rw [e]
    refine ⟨Nat.lt_of_lt_of_le (show 2 ^ 27 < 10 ^ 9 by decide) (Nat.pow_le_pow_right (by omega) (by omega)), by omega, by omega⟩
theorem lsh_mu {a : Dec} (h : a.Ok) (hd : a.dp ≤ 0) (hc : a.dp < 0 ∨ (a.dp = 0 ∧ d0 a < 5)) : (a.lsh (powtab (-a.dp).toNat)).dp ≤ 0 ∧ muL (a.lsh (powtab (-a.dp).toNat)) < muL a := by
  obtain ⟨v1, v2, v3, v4⟩ := h.val
  obtain ⟨e1, e2, e3⟩ := h.d0
  obtain ⟨k, hk⟩ : ∃ k, powtab (-a.dp).toNat = k := ⟨_, rfl⟩
  rw [hk]
  obtain ⟨o1, o2, o3⟩ := lsh_ok h k
  have hn : val a.ds * 2 ^ k ≠ 0 := Nat.mul_ne_zero v4 (Nat.ne_of_gt (Nat.two_pow_pos _))
  obtain ⟨l1, l2, l3⟩ := dgs_len _ hn
  obtain ⟨f1, f2, f3⟩ := o1.d0
  obtain ⟨K, hK⟩ : ∃ K, (dgs (val a.ds * 2 ^ k)).length = K := ⟨_, rfl⟩
  rw [hK] at o2 o3 l1 l2 l3
  have k1 : 1 ≤ k := by
    by_cases hm : (-a.dp).toNat = 0
    · rw [hm] at hk; rw [← hk]; decide
    · have := powtab_lt (-a.dp).toNat (by omega)
      omega
  have p2 : 2 ≤ 2 ^ k := Nat.le_trans (show 2 ≤ 2 ^ 1 by decide) (Nat.pow_le_pow_right (by omega) k1)
  have hge : val a.ds ≤ val a.ds * 2 ^ k := Nat.le_mul_of_pos_right _ (by omega)
  have hLK : a.ds.length ≤ K := by
    have := (Nat.pow_lt_pow_iff_right (show 1 < 10 by omega)).1 (Nat.lt_of_le_of_lt (Nat.le_trans v1 hge) l2)
    omega
  have hKL : (K : Int) - a.ds.length ≤ -a.dp := by
    rcases hc with hc | ⟨hc, h5⟩
    · have hm := powtab_lt (-a.dp).toNat (by omega)
      rw [hk] at hm
      have : val a.ds * 2 ^ k < 10 ^ (a.ds.length + (-a.dp).toNat) := by
        rw [Nat.pow_add]
        exact Nat.lt_of_lt_of_le (Nat.mul_lt_mul_of_pos_right v2 (by omega)) (Nat.mul_le_mul_left _ (by omega))
      have := (Nat.pow_lt_pow_iff_right (show 1 < 10 by omega)).1 (Nat.lt_of_le_of_lt l1 this)
      omega
    · have hk1 : k = 1 := by rw [← hk, hc]; rfl
      have : val a.ds < 5 * 10 ^ (a.ds.length - 1) := by
        have hp := Nat.pow_pos (n := a.ds.length - 1) (show 0 < 10 by omega)
        rw [e1] at h5
        exact (Nat.div_lt_iff_lt_mul hp).1 h5
      have h10 : 10 ^ a.ds.length = 10 ^ (a.ds.length - 1) * 10 := by rw [← Nat.pow_succ]; congr 1; omega
      have : val a.ds * 2 ^ k < 10 ^ a.ds.length := by rw [hk1, h10]; omega
      have := (Nat.pow_lt_pow_iff_right (show 1 < 10 by omega)).1 (Nat.lt_of_le_of_lt l1 this)
      omega
  refine ⟨by rw [o3]; omega, ?_⟩
  unfold muL
  rw [o3]
  by_cases hE : K = a.ds.length
  · have : d0 a < d0 (a.lsh k) := by
      rw [o2, hE]
      have hp := Nat.pow_pos (n := a.ds.length - 1) (show 0 < 10 by omega)
      have : d0 a * 10 ^ (a.ds.length - 1) ≤ val a.ds := by rw [e1]; exact Nat.div_mul_le_self _ _
      refine (Nat.le_div_iff_mul_le hp).2 ?_
      have h2 : val a.ds * 2 ≤ val a.ds * 2 ^ k := Nat.mul_le_mul_left _ p2
      have h3 : (d0 a + 1) * 10 ^ (a.ds.length - 1) ≤ (d0 a * 10 ^ (a.ds.length - 1)) * 2 := by
        rw [Nat.mul_right_comm]
        exact Nat.mul_le_mul_right _ (by omega)
      exact Nat.le_trans h3 (Nat.le_trans (Nat.mul_le_mul_right 2 this) h2)
    omega
  · omega
end PF
/- Decimals under shifts to the right: what stays true of them, and that the loops end. No condition. -/
namespace PF
/-- What the first digits of a shift to the right come to. -/
structure Rs1 (k n r : Nat) : Prop where
  lo : 2 ^ k ≤ n
  hi : n < 10 * 2 ^ k
  r1 : 1 ≤ r
  few : r ≤ 1 ∨ 10 ^ (r - 2) < 2 ^ k
theorem rsz_spec (k : Nat) : ∀ (f n r : Nat), 1 ≤ r → 10 ^ (r - 1) ≤ n → n < 10 * 2 ^ k → 2 ^ k ≤ n * 10 ^ f → (r ≤ 1 ∨ 10 ^ (r - 2) < 2 ^ k) → Rs1 k (rsz k f n r).1 (rsz k f n r).2 ∧ r ≤ (rsz k f n r).2 ∧ ((rsz k f n r).2 = r → (rsz k f n r).1 = n)
  | 0, n, r, h1, h2, h3, h4, h5 => by
    unfold rsz
    exact ⟨⟨by simpa using h4, h3, h1, h5⟩, Nat.le_refl _, fun _ => rfl⟩
  | f + 1, n, r, h1, h2, h3, h4, h5 => by
    have p2 := Nat.two_pow_pos k
    unfold rsz
    by_cases h : n / 2 ^ k = 0
    · rw [if_pos h]
      have hn : n < 2 ^ k := by
        rcases Nat.div_eq_zero_iff.1 h with h | h
        · omega
        · exact h
      have e : 10 ^ (r + 1 - 1) = 10 ^ (r - 1) * 10 := by rw [← Nat.pow_succ]; congr 1; omega
      obtain ⟨a, b, c⟩ := rsz_spec k f (n * 10) (r + 1) (by omega) (by rw [e]; omega) (by omega) (by rw [Nat.mul_assoc, ← Nat.pow_succ']; exact h4) (.inr (by rw [show r + 1 - 2 = r - 1 by omega]; omega))
      exact ⟨a, by omega, fun h => by omega⟩
    · rw [if_neg h]
      have hn : 2 ^ k ≤ n := by
        have : 1 ≤ n / 2 ^ k := Nat.pos_of_ne_zero h
        have := (Nat.le_div_iff_mul_le p2).1 this
        omega
      exact ⟨⟨hn, h3, h1, h5⟩, Nat.le_refl _, fun _ => rfl⟩
theorem two_le_ten (k : Nat) : 2 ^ k ≤ 10 ^ k := Nat.pow_le_pow_left (by omega) k
theorem rs1_spec (k : Nat) : ∀ (t : List Nat) (n r : Nat), (∀ d ∈ t, d ≤ 9) → 1 ≤ r → 10 ^ (r - 1) ≤ n → n < 10 * 2 ^ k → (r ≤ 1 ∨ 10 ^ (r - 2) < 2 ^ k) → Rs1 k (rs1 k t n r).2.1 (rs1 k t n r).2.2 ∧ r ≤ (rs1 k t n r).2.2 ∧ ((rs1 k t n r).2.2 = r → (rs1 k t n r).2.1 = n) ∧ (rs1 k t n r).1 = t.drop ((rs1 k t n r).2.2 - r)
  | [], n, r, _, h1, h2, h3, h5 => by
    unfold rs1
    have p1 := Nat.pow_pos (n := r - 1) (show 0 < 10 by omega)
    have h4 : 2 ^ k ≤ n * 10 ^ (k + 1) := by
      have a := two_le_ten k
      have b : 1 * 10 ^ (k + 1) ≤ n * 10 ^ (k + 1) := Nat.mul_le_mul_right _ (by omega)
      rw [Nat.pow_succ] at b ⊢
      omega
    obtain ⟨a, b, c⟩ := rsz_spec k (k + 1) n r h1 h2 h3 h4 h5
    exact ⟨a, b, c, by simp⟩
  | d :: t, n, r, hd, h1, h2, h3, h5 => by
    have p2 := Nat.two_pow_pos k
    unfold rs1
    by_cases h : n / 2 ^ k = 0
    · rw [if_pos h]
      have hn : n < 2 ^ k := by
        rcases Nat.div_eq_zero_iff.1 h with h | h
        · omega
        · exact h
      have hd9 := hd d (List.mem_cons_self ..)
      have e : 10 ^ (r + 1 - 1) = 10 ^ (r - 1) * 10 := by rw [← Nat.pow_succ]; congr 1; omega
      obtain ⟨a, b, c, dd⟩ := rs1_spec k t (n * 10 + d) (r + 1) (fun x hx => hd x (List.mem_cons_of_mem _ hx)) (by omega) (by rw [e]; omega) (by omega) (.inr (by rw [show r + 1 - 2 = r - 1 by omega]; omega))
      refine ⟨a, by omega, fun h => by omega, ?_⟩
      rw [dd, show (rs1 k t (n * 10 + d) (r + 1)).2.2 - r = (rs1 k t (n * 10 + d) (r + 1)).2.2 - (r + 1) + 1 by omega, List.drop_succ_cons]
    · rw [if_neg h]
      have hn : 2 ^ k ≤ n := by
        have : 1 ≤ n / 2 ^ k := Nat.pos_of_ne_zero h
        have := (Nat.le_div_iff_mul_le p2).1 this
        omega
      exact ⟨⟨hn, h3, h1, h5⟩, Nat.le_refl _, fun _ => rfl, by simp⟩
theorem rs1_ok {a : Dec} (h : a.Ok) (k : Nat) : Rs1 k (rs1 k a.ds 0 0).2.1 (rs1 k a.ds 0 0).2.2 ∧ ((rs1 k a.ds 0 0).2.2 = 1 → (rs1 k a.ds 0 0).2.1 = d0 a) ∧ (rs1 k a.ds 0 0).1 = a.ds.drop (rs1 k a.ds 0 0).2.2 := by
  have h1 := h.one
  have hd := h.dig
  unfold d0
  revert h1 hd
  cases a.ds with
  | nil => intro h1; exact absurd rfl h1
  | cons d t =>
    intro h1 hd
    have hd9 := hd d (List.mem_cons_self ..)
    have h1' : d ≠ 0 := by simpa using h1
    have p2 := Nat.two_pow_pos k
    unfold rs1
    rw [Nat.zero_div, if_pos rfl, Nat.zero_mul, Nat.zero_add, Nat.zero_add]
    obtain ⟨x, y, z, u⟩ := rs1_spec k t d 1 (fun x hx => hd x (List.mem_cons_of_mem _ hx)) (Nat.le_refl _) (by simp; omega) (by omega) (.inl (Nat.le_refl _))
    refine ⟨x, fun e => by rw [z e]; rfl, ?_⟩
    rw [u]
    conv => rhs; rw [show (rs1 k t d 1).2.2 = (rs1 k t d 1).2.2 - 1 + 1 by omega]
    rw [List.drop_succ_cons]
theorem step_lt {k n c : Nat} (hc : c ≤ 9) : n % 2 ^ k * 10 + c < 10 * 2 ^ k := by
  have := Nat.mod_lt n (Nat.two_pow_pos k)
  omega
theorem dig_le9 {k n : Nat} (h : n < 10 * 2 ^ k) : n / 2 ^ k ≤ 9 := by
  have := (Nat.div_lt_iff_lt_mul (Nat.two_pow_pos k)).2 h
  omega
theorem rs2_spec (k : Nat) : ∀ (t : List Nat) (n : Nat), (∀ d ∈ t, d ≤ 9) → n < 10 * 2 ^ k → (rs2 k t n).2 < 10 * 2 ^ k ∧ (rs2 k t n).1.length = t.length ∧ (∀ d ∈ (rs2 k t n).1, d ≤ 9) ∧ (t = [] → (rs2 k t n).2 = n) ∧ (t ≠ [] → (rs2 k t n).1.headD 0 = n / 2 ^ k)
  | [], n, _, h => by
    unfold rs2
    exact ⟨h, rfl, (fun d hd => by cases hd), fun _ => rfl, fun h => absurd rfl h⟩
  | c :: t, n, hd, h => by
    unfold rs2
    obtain ⟨x, y, z, _, _⟩ := rs2_spec k t (n % 2 ^ k * 10 + c) (fun x hx => hd x (List.mem_cons_of_mem _ hx)) (step_lt (hd c (List.mem_cons_self ..)))
    refine ⟨x, by simp [y], ?_, (fun h => by cases h), fun _ => rfl⟩
    intro d hd
    rcases List.mem_cons.1 hd with rfl | hd
    · exact dig_le9 h
    · exact z d hd
theorem rs3_spec (k : Nat) : ∀ (f n w : Nat), n < 10 * 2 ^ k → w ≤ 800 → w + (rs3 k f n w).1.length ≤ 800 ∧ (∀ d ∈ (rs3 k f n w).1, d ≤ 9) ∧ (1 ≤ f → 2 ^ k ≤ n → w < 800 → (rs3 k f n w).1.headD 0 = n / 2 ^ k)
  | 0, n, w, h, hw => by
    unfold rs3
    exact ⟨by simpa using hw, (fun d hd => by cases hd), fun h => by omega⟩
  | f + 1, n, w, h, hw => by
    unfold rs3
    have hp := Nat.two_pow_pos k
    have hs := step_lt (k := k) (n := n) (c := 0) (by omega)
    by_cases hn : n = 0
    · rw [if_pos hn]
      exact ⟨by simpa using hw, (fun d hd => by cases hd), fun _ h => by omega⟩
    · rw [if_neg hn]
      by_cases hw8 : w < 800
      · rw [if_pos hw8]
        obtain ⟨x, y, _⟩ := rs3_spec k f (n % 2 ^ k * 10) (w + 1) hs hw8
        refine ⟨by simp; omega, ?_, fun _ _ _ => rfl⟩
        intro d hd
        rcases List.mem_cons.1 hd with rfl | hd
        · exact dig_le9 h
        · exact y d hd
      · rw [if_neg hw8]
        obtain ⟨x, y, _⟩ := rs3_spec k f (n % 2 ^ k * 10) w hs hw
        exact ⟨x, y, fun _ _ h => by omega⟩
/-- The fuel of what is left is enough. -/
def Fu (k f n : Nat) : Prop := n = 0 ∨ ∃ j, j ≤ k ∧ 2 ^ j ∣ n ∧ k + 1 ≤ j + f
theorem Fu.start (k n : Nat) : Fu k (k + 2) n := .inr ⟨0, by omega, by simp, by omega⟩
theorem Fu.pos {k f n : Nat} (h : Fu k f n) (hn : n ≠ 0) : ∃ g, f = g + 1 ∧ Fu k g (n % 2 ^ k * 10) := by
  rcases h with h | ⟨j, h1, h2, h3⟩
  · exact absurd h hn
  · refine ⟨f - 1, by omega, ?_⟩
    by_cases hj : j = k
    · subst hj
      left
      rw [Nat.mod_eq_zero_of_dvd h2]
    · right
      refine ⟨j + 1, by omega, ?_, by omega⟩
      have h4 : 2 ^ j ∣ n % 2 ^ k := (Nat.dvd_mod_iff (Nat.pow_dvd_pow 2 h1)).2 h2
      have : 2 ^ (j + 1) = 2 ^ j * 2 := Nat.pow_succ ..
      rw [this]
      exact Nat.mul_dvd_mul h4 ⟨5, rfl⟩
/-- Before the trim. -/
def Dec.rsh0 (a : Dec) (k : Nat) : Dec :=
  let p := rs1 k a.ds 0 0
  let q := rs2 k p.1 p.2.1
  let t := rs3 k (k + 2) q.2 q.1.length
  ⟨q.1 ++ t.1, a.dp - ((p.2.2 : Int) - 1), a.tr || t.2⟩
theorem rsh_eq (a : Dec) (k : Nat) : a.rsh k = (a.rsh0 k).trim := rfl
theorem headD_append {a b : List Nat} (h : a ≠ []) : (a ++ b).headD 0 = a.headD 0 := by
  cases a with
  | nil => exact absurd rfl h
  | cons x t => rfl
theorem rsh0_ok {a : Dec} (h : a.Ok) (k : Nat) : (a.rsh0 k).Ok ∧ d0 (a.rsh0 k) = (rs1 k a.ds 0 0).2.1 / 2 ^ k := by
  obtain ⟨p, _, hdrop⟩ := rs1_ok h k
  have hdg : ∀ d ∈ (rs1 k a.ds 0 0).1, d ≤ 9 := by rw [hdrop]; exact fun d hd => h.dig d (List.mem_of_mem_drop hd)
  have hl : (rs1 k a.ds 0 0).1.length ≤ 799 := by
    rw [hdrop, List.length_drop]; have := h.len; have := p.r1; omega
  obtain ⟨q1, q2, q3, q4, q5⟩ := rs2_spec k _ _ hdg p.hi
  obtain ⟨t1, t2, t3⟩ := rs3_spec k (k + 2) _ (rs2 k (rs1 k a.ds 0 0).1 (rs1 k a.ds 0 0).2.1).1.length q1 (by omega)
  have hh : d0 (a.rsh0 k) = (rs1 k a.ds 0 0).2.1 / 2 ^ k := by
    show ((rs2 k (rs1 k a.ds 0 0).1 (rs1 k a.ds 0 0).2.1).1 ++ _).headD 0 = _
    by_cases he : (rs1 k a.ds 0 0).1 = []
    · have e1 : (rs2 k (rs1 k a.ds 0 0).1 (rs1 k a.ds 0 0).2.1).1 = [] := List.eq_nil_of_length_eq_zero (by rw [q2, he]; rfl)
      rw [e1, List.nil_append]
      have := t3 (by omega) (by rw [q4 he]; exact p.lo) (by omega)
      rw [e1] at this
      rw [this, q4 he]
    · rw [headD_append, q5 he]
      intro e
      rw [e] at q2
      exact he (List.eq_nil_of_length_eq_zero q2.symm)
  refine ⟨⟨?_, ?_, ?_⟩, hh⟩
  · show ((rs2 k (rs1 k a.ds 0 0).1 (rs1 k a.ds 0 0).2.1).1 ++ (rs3 k (k + 2) (rs2 k (rs1 k a.ds 0 0).1 (rs1 k a.ds 0 0).2.1).2 (rs2 k (rs1 k a.ds 0 0).1 (rs1 k a.ds 0 0).2.1).1.length).1).length ≤ 800
    rw [List.length_append]; exact t1
  · intro d hd
    rcases List.mem_append.1 hd with hd | hd
    · exact q3 d hd
    · exact t2 d hd
  · have e : d0 (a.rsh0 k) = (a.rsh0 k).ds.headD 0 := rfl
    rw [← e, hh]
    have := (Nat.le_div_iff_mul_le (Nat.two_pow_pos k)).2 (show 1 * 2 ^ k ≤ _ by rw [Nat.one_mul]; exact p.lo)
    omega
theorem rsh_ok {a : Dec} (h : a.Ok) (k : Nat) : (a.rsh k).Ok ∧ d0 (a.rsh k) = (rs1 k a.ds 0 0).2.1 / 2 ^ k ∧ (a.rsh k).dp = a.dp - (((rs1 k a.ds 0 0).2.2 : Int) - 1) := by
  obtain ⟨o, e⟩ := rsh0_ok h k
  obtain ⟨x, y, z, _⟩ := trim_ok o
  rw [rsh_eq]
  exact ⟨x, by rw [y, e], z⟩
def muR (a : Dec) : Nat := 10 * a.dp.toNat + d0 a
theorem rsh_mu {a : Dec} (h : a.Ok) (hd : 0 < a.dp) : 0 ≤ (a.rsh (powtab a.dp.toNat)).dp ∧ muR (a.rsh (powtab a.dp.toNat)) < muR a := by
  obtain ⟨o, e1, e2⟩ := rsh_ok h (powtab a.dp.toNat)
  obtain ⟨p, p1, _⟩ := rs1_ok h (powtab a.dp.toNat)
  obtain ⟨t1, t2, t3⟩ := powtab_lt a.dp.toNat (by omega)
  obtain ⟨f1, f2, f3⟩ := o.d0
  obtain ⟨g1, g2, g3⟩ := h.d0
  generalize powtab a.dp.toNat = k at *
  obtain ⟨r, hr⟩ : ∃ r, (rs1 k a.ds 0 0).2.2 = r := ⟨_, rfl⟩
  obtain ⟨n, hn⟩ : ∃ n, (rs1 k a.ds 0 0).2.1 = n := ⟨_, rfl⟩
  rw [hr] at p p1 e2
  rw [hn] at p p1 e1
  have r1 := p.r1
  have hr2 : (r : Int) - 1 ≤ a.dp := by
    rcases p.few with h | h
    · omega
    · have := (Nat.pow_lt_pow_iff_right (show 1 < 10 by omega)).1 (Nat.lt_trans h t1)
      omega
  refine ⟨by omega, ?_⟩
  unfold muR
  rw [e2]
  by_cases h1 : r = 1
  · have hn1 := p1 h1
    have : d0 (a.rsh k) < d0 a := by
      rw [e1, hn1]
      have h8 : 2 ^ 3 ≤ 2 ^ k := Nat.pow_le_pow_right (by omega) t2
      have : d0 a / 2 ^ k ≤ d0 a / 2 ^ 3 := Nat.div_le_div_left h8 (by omega)
      omega
    omega
  · omega
theorem rshN_ok : ∀ (k : Nat) {a : Dec}, a.Ok → (a.rshN k).Ok := by
  intro k
  induction k using Nat.strongRecOn with
  | ind k ih =>
    intro a h
    unfold Dec.rshN
    split
    · exact ih (k - 60) (by omega) (rsh_ok h 60).1
    · exact (rsh_ok h k).1
end PF
/- A shift to the left, digit by digit from behind. No condition. -/
namespace PF
/-- What is carried behind j digits. -/
def nJ (ds : List Nat) (k j : Nat) : Nat := val (ds.drop (ds.length - j)) * 2 ^ k / 10 ^ j
theorem nJ_zero (ds : List Nat) (k : Nat) : nJ ds k 0 = 0 := by
  unfold nJ
  rw [Nat.sub_zero, List.drop_length]
  simp [val]
theorem nJ_full (ds : List Nat) (k : Nat) : nJ ds k ds.length = val ds * 2 ^ k / 10 ^ ds.length := by
  unfold nJ
  rw [Nat.sub_self, List.drop_zero]
theorem nJ_lt {ds : List Nat} (hd : ∀ d ∈ ds, d ≤ 9) (k : Nat) {j : Nat} (hj : j ≤ ds.length) : nJ ds k j < 2 ^ k := by
  unfold nJ
  have h := val_lt (ds := ds.drop (ds.length - j)) fun d h => hd d (List.mem_of_mem_drop h)
  rw [List.length_drop, show ds.length - (ds.length - j) = j by omega] at h
  rw [Nat.div_lt_iff_lt_mul (Nat.pow_pos (by omega)), Nat.mul_comm]
  exact Nat.mul_lt_mul_of_pos_left h (Nat.two_pow_pos k)
theorem nJ_step {ds : List Nat} (k : Nat) {j : Nat} (hj : j < ds.length) : (nJ ds k j + ds.getD (ds.length - 1 - j) 0 * 2 ^ k) / 10 = nJ ds k (j + 1) ∧ (nJ ds k j + ds.getD (ds.length - 1 - j) 0 * 2 ^ k) % 10 = val ds * 2 ^ k / 10 ^ j % 10 := by
  have p10 : 0 < 10 ^ j := Nat.pow_pos (by omega)
  have hi : ds.length - (j + 1) < ds.length := by omega
  have e1 : ds.drop (ds.length - (j + 1)) = ds.getD (ds.length - 1 - j) 0 :: ds.drop (ds.length - j) := by
    rw [List.drop_eq_getElem_cons hi, show ds.length - (j + 1) + 1 = ds.length - j by omega]
    congr 1
    rw [List.getD_eq_getElem?_getD, List.getElem?_eq_getElem (by omega), Option.getD_some]
    congr 1
    omega
  have e2 : (ds.drop (ds.length - j)).length = j := by rw [List.length_drop]; omega
  have e3 : val (ds.drop (ds.length - (j + 1))) = ds.getD (ds.length - 1 - j) 0 * 10 ^ j + val (ds.drop (ds.length - j)) := by rw [e1, val_cons, e2]
  have e4 : val ds = val (ds.take (ds.length - (j + 1))) * 10 ^ (j + 1) + val (ds.drop (ds.length - (j + 1))) := by
    conv => lhs; rw [← List.take_append_drop (ds.length - (j + 1)) ds]
    rw [val_append, List.length_drop, show ds.length - (ds.length - (j + 1)) = j + 1 by omega]
  have e5 : nJ ds k j + ds.getD (ds.length - 1 - j) 0 * 2 ^ k = val (ds.drop (ds.length - (j + 1))) * 2 ^ k / 10 ^ j := by
    unfold nJ
    rw [e3, Nat.add_mul, Nat.mul_right_comm, Nat.add_comm (_ * 10 ^ j), Nat.add_mul_div_right _ _ p10]
  rw [e5]
  constructor
  · unfold nJ
    rw [Nat.div_div_eq_div_mul, ← Nat.pow_succ]
  · rw [e4, Nat.add_mul]
    generalize val (ds.take (ds.length - (j + 1))) = A
    generalize val (ds.drop (ds.length - (j + 1))) = B
    have : A * 10 ^ (j + 1) * 2 ^ k = 10 * (A * 2 ^ k) * 10 ^ j := by
      rw [Nat.pow_succ]
      simp only [Nat.mul_assoc, Nat.mul_left_comm, Nat.mul_comm]
    rw [this, Nat.add_comm, Nat.add_mul_div_right _ _ p10, Nat.add_mul_mod_self_left]
/-- The places that are written, from behind: where they lie among the digits. -/
theorem dgs_at {V K p : Nat} (hK : (dgs V).length = K) (hp : p < K) : (dgs V)[p]? = some (V / 10 ^ (K - 1 - p) % 10) := by
  have := dgs_get V p (by omega)
  rw [hK] at this
  exact this
theorem any_drop_step {l : List Nat} {m : Nat} (hm : m < l.length) : (l.drop m).any (· ≠ 0) = (decide (l[m] ≠ 0) || (l.drop (m + 1)).any (· ≠ 0)) := by
  rw [List.drop_eq_getElem_cons hm, List.any_cons]
end PF
/- A decimal's block: 800 places for digits, their number, the place of the point, the sign, the mark of digits cut off. No condition. -/
namespace Go.Dcm
open Go.RowKit
def rowV (f : Nat → Nat) (nd dp : Int) (neg tr : Bool) : Array Value := (Array.ofFn (n := 800) fun i => Value.int .u8 (f i.val : Int)) ++ #[.int .i64 nd, .int .i64 dp, .bool neg, .bool tr]
theorem rowV_size (f : Nat → Nat) (nd dp : Int) (neg tr : Bool) : (rowV f nd dp neg tr).size = 804 := by simp [rowV]
theorem rowV_get (f : Nat → Nat) (nd dp : Int) (neg tr : Bool) (i : Nat) : (rowV f nd dp neg tr)[i]? = if i < 800 then some (.int .u8 (f i : Int)) else #[Value.int .i64 nd, .int .i64 dp, .bool neg, .bool tr][i - 800]? := by
  unfold rowV
  rw [Array.getElem?_append]
  simp only [Array.size_ofFn]
  split
  · rename_i h
    rw [Array.getElem?_ofFn]
    simp [h]
  · rfl
def upd (f : Nat → Nat) (i x : Nat) : Nat → Nat := fun j => if j = i then x else f j
theorem upd_same (f : Nat → Nat) (i x : Nat) : upd f i x i = x := by simp [upd]
theorem upd_ne (f : Nat → Nat) {i j : Nat} (x : Nat) (h : j ≠ i) : upd f i x j = f j := by simp [upd, h]
theorem set_lt (f : Nat → Nat) (nd dp : Int) (neg tr : Bool) {i : Nat} (hi : i < 800) (x : Nat) : (rowV f nd dp neg tr).setIfInBounds i (.int .u8 (x : Int)) = rowV (upd f i x) nd dp neg tr := by
  apply Array.ext_getElem?
  intro j
  rw [Array.getElem?_setIfInBounds, rowV_size, rowV_get, rowV_get]
  by_cases h : i = j
  · subst h
    rw [if_pos rfl, if_pos (by omega), if_pos hi, upd_same]
  · rw [if_neg h]
    by_cases h8 : j < 800
    · rw [if_pos h8, if_pos h8, upd_ne _ _ (by omega)]
    · rw [if_neg h8, if_neg h8]
theorem set_end (f : Nat → Nat) (nd dp : Int) (neg tr : Bool) (k : Nat) (v : Value) : (rowV f nd dp neg tr).setIfInBounds (800 + k) v = (Array.ofFn (n := 800) fun i => Value.int .u8 (f i.val : Int)) ++ (#[Value.int .i64 nd, .int .i64 dp, .bool neg, .bool tr].setIfInBounds k v) := by
  apply Array.ext_getElem?
  intro j
  rw [Array.getElem?_setIfInBounds, rowV_size, rowV_get, Array.getElem?_append]
  simp only [Array.size_ofFn]
  by_cases h : 800 + k = j
  · subst h
    by_cases hk : k < 4
    · rw [if_pos rfl, if_pos (show 800 + k < 804 by omega), if_neg (show ¬800 + k < 800 by omega), Nat.add_sub_cancel_left, Array.getElem?_setIfInBounds, if_pos rfl, if_pos (by simpa using hk)]
    · rw [if_pos rfl, if_neg (show ¬800 + k < 804 by omega), if_neg (show ¬800 + k < 800 by omega), Nat.add_sub_cancel_left, Array.getElem?_setIfInBounds, if_pos rfl, if_neg (by simpa using hk)]
  · rw [if_neg h]
    by_cases h8 : j < 800
    · rw [if_pos h8, if_pos h8, Array.getElem?_ofFn]; simp [h8]
    · rw [if_neg h8, if_neg h8, Array.getElem?_setIfInBounds, if_neg (by omega)]
theorem set_nd (f : Nat → Nat) (nd dp : Int) (neg tr : Bool) (x : Int) : (rowV f nd dp neg tr).setIfInBounds 800 (.int .i64 x) = rowV f x dp neg tr := set_end f nd dp neg tr 0 _
theorem set_dp (f : Nat → Nat) (nd dp : Int) (neg tr : Bool) (x : Int) : (rowV f nd dp neg tr).setIfInBounds 801 (.int .i64 x) = rowV f nd x neg tr := set_end f nd dp neg tr 1 _
theorem set_neg (f : Nat → Nat) (nd dp : Int) (neg tr : Bool) (x : Bool) : (rowV f nd dp neg tr).setIfInBounds 802 (.bool x) = rowV f nd dp x tr := set_end f nd dp neg tr 2 _
theorem set_tr (f : Nat → Nat) (nd dp : Int) (neg tr : Bool) (x : Bool) : (rowV f nd dp neg tr).setIfInBounds 803 (.bool x) = rowV f nd dp neg x := set_end f nd dp neg tr 3 _
/-- Block b holds a decimal's cells; T: its type's number. -/
def DAt (T : TypeId) (w : World) (b : Nat) (f : Nat → Nat) (nd dp : Int) (neg tr : Bool) : Prop := w.heap[b]? = some (.cells (rowV f nd dp neg tr) T (0, 0))
variable {T : TypeId} {w : World} {b : Nat} {f : Nat → Nat} {nd dp : Int} {neg tr : Bool}
theorem DAt.dig (h : DAt T w b f nd dp neg tr) {i : Nat} (hi : i < 800) : w.cell? ⟨b, i, none⟩ = some (.int .u8 (f i : Int)) := by
  rw [Lib.cell_of_heap h, rowV_get, if_pos hi]
theorem DAt.cnd (h : DAt T w b f nd dp neg tr) : w.cell? ⟨b, 800, none⟩ = some (.int .i64 nd) := by rw [Lib.cell_of_heap h, rowV_get]; rfl
theorem DAt.cdp (h : DAt T w b f nd dp neg tr) : w.cell? ⟨b, 801, none⟩ = some (.int .i64 dp) := by rw [Lib.cell_of_heap h, rowV_get]; rfl
theorem DAt.cneg (h : DAt T w b f nd dp neg tr) : w.cell? ⟨b, 802, none⟩ = some (.bool neg) := by rw [Lib.cell_of_heap h, rowV_get]; rfl
theorem DAt.ctr (h : DAt T w b f nd dp neg tr) : w.cell? ⟨b, 803, none⟩ = some (.bool tr) := by rw [Lib.cell_of_heap h, rowV_get]; rfl
theorem DAt.free (h : DAt T w b f nd dp neg tr) (i : Nat) : w.frozen? ⟨b, i, none⟩ = false := Lib.frozen_of_heap h i
theorem DAt.lt (h : DAt T w b f nd dp neg tr) : b < w.heap.size := by
  rcases Nat.lt_or_ge b w.heap.size with h' | h'
  · exact h'
  · unfold DAt at h; rw [Array.getElem?_eq_none h'] at h; cases h
theorem DAt.setDig (h : DAt T w b f nd dp neg tr) {i : Nat} (hi : i < 800) (x : Nat) : DAt T (w.setCell ⟨b, i, none⟩ (.int .u8 (x : Int))) b (upd f i x) nd dp neg tr := by
  have := Joins.block_setCell (i := i) h (.int .u8 (x : Int))
  rw [set_lt _ _ _ _ _ hi] at this
  exact this
theorem DAt.setNd (h : DAt T w b f nd dp neg tr) (x : Int) : DAt T (w.setCell ⟨b, 800, none⟩ (.int .i64 x)) b f x dp neg tr := by
  have := Joins.block_setCell (i := 800) h (.int .i64 x)
  rw [set_nd] at this
  exact this
theorem DAt.setDp (h : DAt T w b f nd dp neg tr) (x : Int) : DAt T (w.setCell ⟨b, 801, none⟩ (.int .i64 x)) b f nd x neg tr := by
  have := Joins.block_setCell (i := 801) h (.int .i64 x)
  rw [set_dp] at this
  exact this
theorem DAt.setNeg (h : DAt T w b f nd dp neg tr) (x : Bool) : DAt T (w.setCell ⟨b, 802, none⟩ (.bool x)) b f nd dp x tr := by
  have := Joins.block_setCell (i := 802) h (.bool x)
  rw [set_neg] at this
  exact this
theorem DAt.setTr (h : DAt T w b f nd dp neg tr) (x : Bool) : DAt T (w.setCell ⟨b, 803, none⟩ (.bool x)) b f nd dp neg x := by
  have := Joins.block_setCell (i := 803) h (.bool x)
  rw [set_tr] at this
  exact this
theorem DAt.drew (h : DAt T w b f nd dp neg tr) (n : Nat) : DAt T (w.drewN n) b f nd dp neg tr := by
  unfold DAt at *
  simpa using h
/-- The first places hold the digits. -/
def Digs (f : Nat → Nat) (ds : List Nat) : Prop := ∀ i, i < ds.length → f i = 48 + ds.getD i 0
theorem Digs.at {f : Nat → Nat} {ds : List Nat} (h : Digs f ds) {i : Nat} (hi : i < ds.length) : f i = 48 + ds[i] := by
  rw [h i hi, List.getD_eq_getElem?_getD, List.getElem?_eq_getElem hi, Option.getD_some]
theorem Digs.take {f : Nat → Nat} {ds : List Nat} (h : Digs f ds) (n : Nat) : Digs f (ds.take n) := by
  intro i hi
  rw [List.length_take] at hi
  rw [h i (by omega), List.getD_eq_getElem?_getD, List.getD_eq_getElem?_getD, List.getElem?_take_of_lt (by omega)]
theorem Digs.snoc {f : Nat → Nat} {ds : List Nat} (h : Digs f ds) (d : Nat) : Digs (upd f ds.length (48 + d)) (ds ++ [d]) := by
  intro i hi
  rw [List.length_append, List.length_singleton] at hi
  rw [List.getD_eq_getElem?_getD]
  by_cases e : i = ds.length
  · subst e
    rw [upd_same, List.getElem?_append_right (Nat.le_refl _)]
    simp
  · rw [upd_ne _ _ e, h i (by omega), List.getD_eq_getElem?_getD, List.getElem?_append_left (by omega)]
end Go.Dcm
/- A decimal's zeros behind its digits cut off. Condition: the decimal's block. -/
namespace Go.Proofs.YtagiddbfhlokcaaGreatDoor
open Go.RowKit Go.Dcm
set_option maxRecDepth 100000
theorem trimL_snoc0 (l : List Nat) : PF.trimL (l ++ [0]) = PF.trimL l := by
  unfold PF.trimL
  rw [List.reverse_append, List.reverse_singleton, List.singleton_append, List.dropWhile_cons]
  rfl
theorem trimL_snoc (l : List Nat) {d : Nat} (h : d ≠ 0) : PF.trimL (l ++ [d]) = l ++ [d] := by
  unfold PF.trimL
  rw [List.reverse_append, List.reverse_singleton, List.singleton_append, List.dropWhile_cons, if_neg (by simp [h])]
  simp
theorem take_snoc {ds : List Nat} {m : Nat} (h : m < ds.length) : ds.take (m + 1) = ds.take m ++ [ds.getD m 0] := by
  rw [List.take_succ_eq_append_getElem h, List.getD_eq_getElem?_getD, List.getElem?_eq_getElem h, Option.getD_some]
/-- What a function leaves of a decimal: its block, and all below it. -/
def DPost (b : Nat) (w : World) (f : Nat → Nat) (nd dp : Int) (neg tr : Bool) (e : Ending) (w' : World) : Prop := e = .returned (.tuple #[]) ∧ DAt 267 w' b f nd dp neg tr ∧ Below b w w'
theorem below_drewN {B : Nat} {a w : World} (h : Below B a w) (n : Nat) : Below B a (w.drewN n) := ⟨h.os, h.tape, h.output, h.size, h.block⟩
theorem trim256 (b : Nat) (f : Nat → Nat) (ds : List Nat) (dp : Int) (neg tr : Bool) (w : World) (hD : DAt 267 w b f ds.length dp neg tr) (hg : Digs f ds) (hl : ds.length ≤ 800) :
    Calls Tryz.prog 256 #[.pointer (some ⟨b, 0, none⟩)] w (DPost b w f (PF.trimL ds).length (if PF.trimL ds = [] then 0 else dp) neg tr) := by
  obtain ⟨dp', hdp⟩ : ∃ x, (if PF.trimL ds = [] then 0 else dp) = x := ⟨_, rfl⟩
  obtain ⟨L, hL⟩ : ∃ x, (PF.trimL ds).length = x := ⟨_, rfl⟩
  rw [hdp, hL]
  have HDP := Lib.hid hdp
  have HL := Lib.hid hL
  have HD := Lib.hid hD
  have HG := Lib.hid hg
  clear hD hg hdp hL
  go_enter Tryz.func256, Tryz.ntmps256
  go_wp2_with fail
  go_loopg [] ds.length (fun k wr => k ≤ ds.length ∧ PF.trimL (ds.take k) = PF.trimL ds ∧ DAt 267 wr b f k dp neg tr ∧ Below b w wr)
  case atStart => exact ⟨Nat.le_refl _, by rw [List.take_length], HD.out, Below.refl _ _⟩
  case round =>
    obtain ⟨hk, ht, hd, hb⟩ := hrel
    have HT := Lib.hid ht
    have HB := Lib.hid hb
    cases gk with
    | zero =>
      have cn := hd.cnd
      have cp := hd.cdp
      have fr := hd.free 801
      obtain rfl : L = 0 := by rw [← HL.out, ← HT.out]; rfl
      obtain rfl : 0 = dp' := by rw [← HDP.out, ← HT.out]; rfl
      have HE := Lib.hid hd
      clear ht hb hd hk
      go_wp2_with fail
      go_quiet (fail)
      go_wp2_with fail
      go_end0
      exact ⟨rfl, (HE.out.drew _).setDp 0, (below_drewN HB.out _).setCell (p := ⟨b, 801, none⟩) (Nat.le_refl _) _⟩
    | succ m =>
      have cn : wr.cell? ⟨b, 800, none⟩ = some (.int .i64 ((m : Int) + 1)) := by simpa using hd.cnd
      have cp := hd.cdp
      have fr := hd.free 800
      have cd := hd.dig (i := m) (by omega)
      obtain ⟨N, hN⟩ : ∃ N : Int, (m : Int) + 1 = N := ⟨_, rfl⟩
      rw [hN] at cn
      have n0 : 0 < N := by omega
      have wn : IntKind.i64.wrap (N - 1) = (m : Int) := by rw [IntWalk.i64_in _ (by omega)]; omega
      have m8 : m < 800 := by omega
      obtain ⟨x, hx⟩ : ∃ x, f m = x := ⟨_, rfl⟩
      rw [hx] at cd
      have hfm := HG.out m (by omega)
      rw [hx] at hfm
      have hts := take_snoc (ds := ds) (m := m) (by omega)
      obtain ⟨d, hdd⟩ : ∃ d, ds.getD m 0 = d := ⟨_, rfl⟩
      rw [hdd] at hfm hts
      have HH := Lib.hid hd
      have HTS := Lib.hid hts
      have hkl : m + 1 ≤ ds.length := hk
      have HK := Lib.hid hkl
      by_cases h0 : d = 0
      · have e48 : ((x : Int) == 48) = true := by rw [beq_iff_eq]; omega
        have H0 := Lib.hid h0
        have HN : Hid ((m : Int) + 1 = N) := Lib.hid hN
        clear ht hb hd hfm hts hk hkl hdd hN hx h0
        go_wp2_with fail
        go_quiet (fail)
        go_wp2_with fail
        go_roundg m
        case measure => omega
        case rel => exact ⟨by have := HK.out; omega, by rw [← HT.out, HTS.out, H0.out, trimL_snoc0], (HH.out.drew _).setNd _, (below_drewN HB.out _).setCell (p := ⟨b, 800, none⟩) (Nat.le_refl _) _⟩
      · have e48 : ((x : Int) == 48) = false := by rw [beq_eq_false_iff_ne]; omega
        have hd2 : PF.trimL ds = ds.take (m + 1) := by rw [← ht, hts, trimL_snoc _ h0]
        have hlen : L = m + 1 := by rw [← HL.out, hd2, List.length_take]; omega
        have hne : PF.trimL ds ≠ [] := by intro e; rw [hd2] at e; have := congrArg List.length e; rw [List.length_take, List.length_nil] at this; omega
        obtain rfl : dp = dp' := by rw [← HDP.out, if_neg hne]
        have HLN := Lib.hid hlen
        have nz : (N == 0) = false := by rw [beq_eq_false_iff_ne]; omega
        clear ht hb hd hfm hts hk hkl hdd hN hx h0 hd2 hlen hne
        go_wp2_with fail
        go_quiet (fail)
        go_wp2_with fail
        go_end0
        exact ⟨rfl, by rw [HLN.out]; exact HH.out.drew _, below_drewN HB.out _⟩
end Go.Proofs.YtagiddbfhlokcaaGreatDoor
