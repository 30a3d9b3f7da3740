/- Several texts of this proof, laid together. Conditions: as each says. -/
import Derived.Test.YtagiddbfhlokcaaGreatDoorMAI
import Derived.Test.YtagiddbfhlokcaaGreatDoorMAA
/- Decimals under shifts: what stays true of them, and that the loops end. No condition. -/
namespace PF
theorem dgs_pos {n : Nat} (h : n ≠ 0) : dgs n = dgs (n / 10) ++ [n % 10] := by rw [dgs, if_neg h]
theorem dgs_zero : dgs 0 = [] := by rw [dgs, if_pos rfl]
theorem dgs_len : ∀ (n : Nat), n ≠ 0 → 10 ^ ((dgs n).length - 1) ≤ n ∧ n < 10 ^ (dgs n).length ∧ 1 ≤ (dgs n).length := by
  intro n
  induction n using Nat.strongRecOn with
  | ind n ih =>
    intro hn
    rw [dgs_pos hn, List.length_append, List.length_singleton, Nat.add_sub_cancel, Nat.pow_succ]
    by_cases h : n / 10 = 0
    · rw [h, dgs_zero]
      simp only [List.length_nil, Nat.pow_zero]
      omega
    · obtain ⟨h1, h2, h3⟩ := ih (n / 10) (by omega) h
      have e : 10 ^ (dgs (n / 10)).length = 10 ^ ((dgs (n / 10)).length - 1) * 10 := by rw [← Nat.pow_succ]; congr 1; omega
      refine ⟨by rw [e]; omega, by omega, by omega⟩
theorem dgs_len_eq {n K : Nat} (hK : 1 ≤ K) (h0 : 10 ^ (K - 1) ≤ n) (h1 : n < 10 ^ K) : (dgs n).length = K := by
  have hn : n ≠ 0 := by have := Nat.pow_pos (n := K - 1) (show 0 < 10 by omega); omega
  obtain ⟨a, b, c⟩ := dgs_len n hn
  have u := (Nat.pow_lt_pow_iff_right (show 1 < 10 by omega)).1 (Nat.lt_of_le_of_lt a h1)
  have v := (Nat.pow_lt_pow_iff_right (show 1 < 10 by omega)).1 (Nat.lt_of_le_of_lt h0 b)
  omega
theorem dgs_get : ∀ (n i : Nat), i < (dgs n).length → (dgs n)[i]? = some (n / 10 ^ ((dgs n).length - 1 - i) % 10) := by
  intro n
  induction n using Nat.strongRecOn with
  | ind n ih =>
    intro i hi
    by_cases hn : n = 0
    · subst hn; rw [dgs_zero] at hi; cases hi
    · have hl : (dgs n).length = (dgs (n / 10)).length + 1 := by rw [dgs_pos hn]; simp
      rw [hl] at hi ⊢
      rw [dgs_pos hn]
      by_cases he : i = (dgs (n / 10)).length
      · subst he
        rw [List.getElem?_append_right (Nat.le_refl _)]
        simp
      · rw [List.getElem?_append_left (by omega), ih (n / 10) (by omega) i (by omega), Nat.div_div_eq_div_mul, ← Nat.pow_succ']
        congr 4
        omega
theorem dgs_le (n : Nat) : ∀ d ∈ dgs n, d ≤ 9 := by
  intro d hd
  obtain ⟨i, hi, e⟩ := List.getElem_of_mem hd
  have := dgs_get n i hi
  rw [List.getElem?_eq_getElem hi, e] at this
  have := Option.some.inj this
  omega
theorem dgs_head {n : Nat} (h : n ≠ 0) : (dgs n).headD 0 = n / 10 ^ ((dgs n).length - 1) := by
  have h3 := dgs_len n h
  have h1 := dgs_get n 0 (by omega)
  have e : (dgs n).headD 0 = ((dgs n)[0]?).getD 0 := by cases dgs n <;> rfl
  rw [e, h1, Nat.sub_zero]
  have : n / 10 ^ ((dgs n).length - 1) < 10 := by
    have e2 : 10 ^ (dgs n).length = 10 * 10 ^ ((dgs n).length - 1) := by rw [← Nat.pow_succ']; congr 1; omega
    rw [Nat.div_lt_iff_lt_mul (Nat.pow_pos (by omega)), ← e2]
    exact h3.2.1
  simp only [Option.getD_some]
  exact Nat.mod_eq_of_lt this
/-- A decimal that is not nought: digits, the first is not nought, room for them. -/
structure Dec.Ok (a : Dec) : Prop where
  len : a.ds.length ≤ 800
  dig : ∀ d ∈ a.ds, d ≤ 9
  one : a.ds.headD 0 ≠ 0
theorem Dec.Ok.ne {a : Dec} (h : a.Ok) : a.ds ≠ [] := by intro e; exact h.one (by rw [e]; rfl)
theorem trimL_prefix (ds : List Nat) : ∃ t, ds = trimL ds ++ t ∧ ∀ x ∈ t, x = 0 := by
  refine ⟨(ds.reverse.takeWhile (· == 0)).reverse, ?_, ?_⟩
  · unfold trimL
    rw [← List.reverse_append, List.takeWhile_append_dropWhile, List.reverse_reverse]
  · intro x hx
    have := List.all_eq_true.1 (List.all_takeWhile (l := ds.reverse)) x (List.mem_reverse.1 hx)
    simpa using this
theorem trimL_head {ds : List Nat} (h : ds.headD 0 ≠ 0) : (trimL ds).headD 0 = ds.headD 0 := by
  obtain ⟨t, e, h0⟩ := trimL_prefix ds
  cases hx : trimL ds with
  | nil =>
    rw [hx, List.nil_append] at e
    subst e
    cases ds with
    | nil => exact absurd rfl h
    | cons a r => exact absurd (h0 a (List.mem_cons_self ..)) (by simpa using h)
  | cons a r =>
    rw [hx] at e
    conv => rhs; rw [e]
    rfl
theorem trim_ok {a : Dec} (h : a.Ok) : a.trim.Ok ∧ d0 a.trim = d0 a ∧ a.trim.dp = a.dp ∧ a.trim.tr = a.tr := by
  obtain ⟨t, e, _⟩ := trimL_prefix a.ds
  have hh := trimL_head h.one
  have hne : trimL a.ds ≠ [] := by intro e0; rw [e0] at hh; exact h.one hh.symm
  refine ⟨⟨?_, ?_, ?_⟩, hh, by unfold Dec.trim; rw [if_neg hne], rfl⟩
  · have := congrArg List.length e
    rw [List.length_append] at this
    have := h.len
    show (trimL a.ds).length ≤ 800
    omega
  · intro d hd
    exact h.dig d (by rw [e]; exact List.mem_append_left _ hd)
  · show (trimL a.ds).headD 0 ≠ 0
    rw [hh]; exact h.one
theorem Dec.Ok.val {a : Dec} (h : a.Ok) : 10 ^ (a.ds.length - 1) ≤ val a.ds ∧ val a.ds < 10 ^ a.ds.length ∧ 1 ≤ a.ds.length ∧ val a.ds ≠ 0 := by
  have h2 := val_lt h.dig
  have h1 := h.one
  revert h1 h2
  cases a.ds with
  | nil => intro _ h1; exact absurd rfl h1
  | cons d t =>
    intro h2 h1
    have h3 := val_ge (d := d) (t := t) (by simpa using h1)
    have := Nat.pow_pos (n := t.length) (show 0 < 10 by omega)
    exact ⟨by simpa using h3, h2, by simp, by omega⟩
theorem Dec.Ok.d0 {a : Dec} (h : a.Ok) : d0 a = PF.val a.ds / 10 ^ (a.ds.length - 1) ∧ 1 ≤ d0 a ∧ d0 a ≤ 9 := by
  unfold PF.d0
  have h1 := h.one
  have hd := h.dig
  revert h1 hd
  cases a.ds with
  | nil => intro h1; exact absurd rfl h1
  | cons d t =>
    intro h1 hd
    have ht := val_lt fun x hx => hd x (List.mem_cons_of_mem _ hx)
    refine ⟨?_, by have : d ≠ 0 := by simpa using h1
                   simp; omega, hd d (List.mem_cons_self ..)⟩
    rw [val_cons]
    simp only [List.headD_cons, List.length_cons, Nat.add_sub_cancel]
    rw [Nat.mul_comm, Nat.mul_add_div (Nat.pow_pos (by omega)), Nat.div_eq_of_lt ht, Nat.add_zero]
/-- To the left: what is made, before it is trimmed. -/
theorem lsh_ok {a : Dec} (h : a.Ok) (k : Nat) : (Dec.lsh a k).Ok ∧ d0 (a.lsh k) = val a.ds * 2 ^ k / 10 ^ ((dgs (val a.ds * 2 ^ k)).length - 1) ∧ (a.lsh k).dp = a.dp + (((dgs (val a.ds * 2 ^ k)).length : Int) - a.ds.length) := by
  obtain ⟨v1, v2, v3, v4⟩ := h.val
  have hn : val a.ds * 2 ^ k ≠ 0 := Nat.mul_ne_zero v4 (Nat.ne_of_gt (Nat.two_pow_pos _))
  have hh := dgs_head hn
  obtain ⟨l1, l2, l3⟩ := dgs_len _ hn
  have hp : 1 ≤ val a.ds * 2 ^ k / 10 ^ ((dgs (val a.ds * 2 ^ k)).length - 1) := (Nat.le_div_iff_mul_le (Nat.pow_pos (by omega))).2 (by omega)
  have ht : ((dgs (val a.ds * 2 ^ k)).take 800).headD 0 = (dgs (val a.ds * 2 ^ k)).headD 0 := by cases dgs (val a.ds * 2 ^ k) <;> rfl
  have ok : (Dec.mk ((dgs (val a.ds * 2 ^ k)).take 800) (a.dp + (((dgs (val a.ds * 2 ^ k)).length : Int) - a.ds.length)) (a.tr || ((dgs (val a.ds * 2 ^ k)).drop 800).any (· ≠ 0))).Ok := by
    refine ⟨by simp; omega, fun d hd => dgs_le _ d (List.mem_of_mem_take hd), ?_⟩
    show ((dgs (val a.ds * 2 ^ k)).take 800).headD 0 ≠ 0
    rw [ht, hh]; omega
  obtain ⟨o1, o2, o3, _⟩ := trim_ok ok
  refine ⟨o1, ?_, o3⟩
  have : d0 (a.lsh k) = ((dgs (val a.ds * 2 ^ k)).take 800).headD 0 := o2
  rw [this, ht, hh]
def muL (a : Dec) : Nat := 10 * (-a.dp).toNat + (9 - d0 a)
theorem powtab_lt (m : Nat) (h : 1 ≤ m) : 2 ^ powtab m < 10 ^ m ∧ 3 ≤ powtab m ∧ powtab m ≤ 27 := by
  by_cases h9 : m ≤ 8
  · have : m = 1 ∨ m = 2 ∨ m = 3 ∨ m = 4 ∨ m = 5 ∨ m = 6 ∨ m = 7 ∨ m = 8 := by omega
    rcases this with rfl | rfl | rfl | rfl | rfl | rfl | rfl | rfl <;> decide
  · have e : powtab m = 27 := by
      unfold powtab
      split <;> first | rfl | omega
    rw [e]
    refine ⟨Nat.lt_of_lt_of_le (show 2 ^ 27 < 10 ^ 9 by decide) (Nat.pow_le_pow_right (by omega) (by omega)), by omega, by omega⟩
theorem lsh_mu {a : Dec} (h : a.Ok) (hd : a.dp ≤ 0) (hc : a.dp < 0 ∨ (a.dp = 0 ∧ d0 a < 5)) : (a.lsh (powtab (-a.dp).toNat)).dp ≤ 0 ∧ muL (a.lsh (powtab (-a.dp).toNat)) < muL a := by
  obtain ⟨v1, v2, v3, v4⟩ := h.val
  obtain ⟨e1, e2, e3⟩ := h.d0
  obtain ⟨k, hk⟩ : ∃ k, powtab (-a.dp).toNat = k := ⟨_, rfl⟩
  rw [hk]
  obtain ⟨o1, o2, o3⟩ := lsh_ok h k
  have hn : val a.ds * 2 ^ k ≠ 0 := Nat.mul_ne_zero v4 (Nat.ne_of_gt (Nat.two_pow_pos _))
  obtain ⟨l1, l2, l3⟩ := dgs_len _ hn
  obtain ⟨f1, f2, f3⟩ := o1.d0
  obtain ⟨K, hK⟩ : ∃ K, (dgs (val a.ds * 2 ^ k)).length = K := ⟨_, rfl⟩
  rw [hK] at o2 o3 l1 l2 l3
  have k1 : 1 ≤ k := by
    by_cases hm : (-a.dp).toNat = 0
    · rw [hm] at hk; rw [← hk]; decide
    · have := powtab_lt (-a.dp).toNat (by omega)
      omega
  have p2 : 2 ≤ 2 ^ k := Nat.le_trans (show 2 ≤ 2 ^ 1 by decide) (Nat.pow_le_pow_right (by omega) k1)
  have hge : val a.ds ≤ val a.ds * 2 ^ k := Nat.le_mul_of_pos_right _ (by omega)
  have hLK : a.ds.length ≤ K := by
    have := (Nat.pow_lt_pow_iff_right (show 1 < 10 by omega)).1 (Nat.lt_of_le_of_lt (Nat.le_trans v1 hge) l2)
    omega
  have hKL : (K : Int) - a.ds.length ≤ -a.dp := by
    rcases hc with hc | ⟨hc, h5⟩
    · have hm := powtab_lt (-a.dp).toNat (by omega)
      rw [hk] at hm
      have : val a.ds * 2 ^ k < 10 ^ (a.ds.length + (-a.dp).toNat) := by
        rw [Nat.pow_add]
        exact Nat.lt_of_lt_of_le (Nat.mul_lt_mul_of_pos_right v2 (by omega)) (Nat.mul_le_mul_left _ (by omega))
      have := (Nat.pow_lt_pow_iff_right (show 1 < 10 by omega)).1 (Nat.lt_of_le_of_lt l1 this)
      omega
    · have hk1 : k = 1 := by rw [← hk, hc]; rfl
      have : val a.ds < 5 * 10 ^ (a.ds.length - 1) := by
        have hp := Nat.pow_pos (n := a.ds.length - 1) (show 0 < 10 by omega)
        rw [e1] at h5
        exact (Nat.div_lt_iff_lt_mul hp).1 h5
      have h10 : 10 ^ a.ds.length = 10 ^ (a.ds.length - 1) * 10 := by rw [← Nat.pow_succ]; congr 1; omega
      have : val a.ds * 2 ^ k < 10 ^ a.ds.length := by rw [hk1, h10]; omega
      have := (Nat.pow_lt_pow_iff_right (show 1 < 10 by omega)).1 (Nat.lt_of_le_of_lt l1 this)
      omega
  refine ⟨by rw [o3]; omega, ?_⟩
  unfold muL
  rw [o3]
  by_cases hE : K = a.ds.length
  · have : d0 a < d0 (a.lsh k) := by
      rw [o2, hE]
      have hp := Nat.pow_pos (n := a.ds.length - 1) (show 0 < 10 by omega)
      have : d0 a * 10 ^ (a.ds.length - 1) ≤ val a.ds := by rw [e1]; exact Nat.div_mul_le_self _ _
      refine (Nat.le_div_iff_mul_le hp).2 ?_
      have h2 : val a.ds * 2 ≤ val a.ds * 2 ^ k := Nat.mul_le_mul_left _ p2
      have h3 : (d0 a + 1) * 10 ^ (a.ds.length - 1) ≤ (d0 a * 10 ^ (a.ds.length - 1)) * 2 := by
        rw [Nat.mul_right_comm]
        exact Nat.mul_le_mul_right _ (by omega)
      exact Nat.le_trans h3 (Nat.le_trans (Nat.mul_le_mul_right 2 this) h2)
    omega
  · omega
end PF
/- Decimals under shifts to the right: what stays true of them, and that the loops end. No condition. -/
namespace PF
/-- What the first digits of a shift to the right come to. -/
structure Rs1 (k n r : Nat) : Prop where
  lo : 2 ^ k ≤ n
  hi : n < 10 * 2 ^ k
  r1 : 1 ≤ r
  few : r ≤ 1 ∨ 10 ^ (r - 2) < 2 ^ k
theorem rsz_spec (k : Nat) : ∀ (f n r : Nat), 1 ≤ r → 10 ^ (r - 1) ≤ n → n < 10 * 2 ^ k → 2 ^ k ≤ n * 10 ^ f → (r ≤ 1 ∨ 10 ^ (r - 2) < 2 ^ k) → Rs1 k (rsz k f n r).1 (rsz k f n r).2 ∧ r ≤ (rsz k f n r).2 ∧ ((rsz k f n r).2 = r → (rsz k f n r).1 = n)
  | 0, n, r, h1, h2, h3, h4, h5 => by
    unfold rsz
    exact ⟨⟨by simpa using h4, h3, h1, h5⟩, Nat.le_refl _, fun _ => rfl⟩
  | f + 1, n, r, h1, h2, h3, h4, h5 => by
    have p2 := Nat.two_pow_pos k
    unfold rsz
    by_cases h : n / 2 ^ k = 0
    · rw [if_pos h]
      have hn : n < 2 ^ k := by
        rcases Nat.div_eq_zero_iff.1 h with h | h
        · omega
        · exact h
      have e : 10 ^ (r + 1 - 1) = 10 ^ (r - 1) * 10 := by rw [← Nat.pow_succ]; congr 1; omega
      obtain ⟨a, b, c⟩ := rsz_spec k f (n * 10) (r + 1) (by omega) (by rw [e]; omega) (by omega) (by rw [Nat.mul_assoc, ← Nat.pow_succ']; exact h4) (.inr (by rw [show r + 1 - 2 = r - 1 by omega]; omega))
      exact ⟨a, by omega, fun h => by omega⟩
    · rw [if_neg h]
      have hn : 2 ^ k ≤ n := by
        have : 1 ≤ n / 2 ^ k := Nat.pos_of_ne_zero h
        have := (Nat.le_div_iff_mul_le p2).1 this
        omega
      exact ⟨⟨hn, h3, h1, h5⟩, Nat.le_refl _, fun _ => rfl⟩
theorem two_le_ten (k : Nat) : 2 ^ k ≤ 10 ^ k := Nat.pow_le_pow_left (by omega) k
theorem rs1_spec (k : Nat) : ∀ (t : List Nat) (n r : Nat), (∀ d ∈ t, d ≤ 9) → 1 ≤ r → 10 ^ (r - 1) ≤ n → n < 10 * 2 ^ k → (r ≤ 1 ∨ 10 ^ (r - 2) < 2 ^ k) → Rs1 k (rs1 k t n r).2.1 (rs1 k t n r).2.2 ∧ r ≤ (rs1 k t n r).2.2 ∧ ((rs1 k t n r).2.2 = r → (rs1 k t n r).2.1 = n) ∧ (rs1 k t n r).1 = t.drop ((rs1 k t n r).2.2 - r)
  | [], n, r, _, h1, h2, h3, h5 => by
    unfold rs1
    have p1 := Nat.pow_pos (n := r - 1) (show 0 < 10 by omega)
    have h4 : 2 ^ k ≤ n * 10 ^ (k + 1) := by
      have a := two_le_ten k
      have b : 1 * 10 ^ (k + 1) ≤ n * 10 ^ (k + 1) := Nat.mul_le_mul_right _ (by omega)
      rw [Nat.pow_succ] at b ⊢
      omega
    obtain ⟨a, b, c⟩ := rsz_spec k (k + 1) n r h1 h2 h3 h4 h5
    exact ⟨a, b, c, by simp⟩
  | d :: t, n, r, hd, h1, h2, h3, h5 => by
    have p2 := Nat.two_pow_pos k
    unfold rs1
    by_cases h : n / 2 ^ k = 0
    · rw [if_pos h]
      have hn : n < 2 ^ k := by
        rcases Nat.div_eq_zero_iff.1 h with h | h
        · omega
        · exact h
      have hd9 := hd d (List.mem_cons_self ..)
      have e : 10 ^ (r + 1 - 1) = 10 ^ (r - 1) * 10 := by rw [← Nat.pow_succ]; congr 1; omega
      obtain ⟨a, b, c, dd⟩ := rs1_spec k t (n * 10 + d) (r + 1) (fun x hx => hd x (List.mem_cons_of_mem _ hx)) (by omega) (by rw [e]; omega) (by omega) (.inr (by rw [show r + 1 - 2 = r - 1 by omega]; omega))
      refine ⟨a, by omega, fun h => by omega, ?_⟩
      rw [dd, show (rs1 k t (n * 10 + d) (r + 1)).2.2 - r = (rs1 k t (n * 10 + d) (r + 1)).2.2 - (r + 1) + 1 by omega, List.drop_succ_cons]
    · rw [if_neg h]
      have hn : 2 ^ k ≤ n := by
        have : 1 ≤ n / 2 ^ k := Nat.pos_of_ne_zero h
        have := (Nat.le_div_iff_mul_le p2).1 this
        omega
      exact ⟨⟨hn, h3, h1, h5⟩, Nat.le_refl _, fun _ => rfl, by simp⟩
theorem rs1_ok {a : Dec} (h : a.Ok) (k : Nat) : Rs1 k (rs1 k a.ds 0 0).2.1 (rs1 k a.ds 0 0).2.2 ∧ ((rs1 k a.ds 0 0).2.2 = 1 → (rs1 k a.ds 0 0).2.1 = d0 a) ∧ (rs1 k a.ds 0 0).1 = a.ds.drop (rs1 k a.ds 0 0).2.2 := by
  have h1 := h.one
  have hd := h.dig
  unfold d0
  revert h1 hd
  cases a.ds with
  | nil => intro h1; exact absurd rfl h1
  | cons d t =>
    intro h1 hd
    have hd9 := hd d (List.mem_cons_self ..)
    have h1' : d ≠ 0 := by simpa using h1
    have p2 := Nat.two_pow_pos k
    unfold rs1
    rw [Nat.zero_div, if_pos rfl, Nat.zero_mul, Nat.zero_add, Nat.zero_add]
    obtain ⟨x, y, z, u⟩ := rs1_spec k t d 1 (fun x hx => hd x (List.mem_cons_of_mem _ hx)) (Nat.le_refl _) (by simp; omega) (by omega) (.inl (Nat.le_refl _))
    refine ⟨x, fun e => by rw [z e]; rfl, ?_⟩
    rw [u]
    conv => rhs; rw [show (rs1 k t d 1).2.2 = (rs1 k t d 1).2.2 - 1 + 1 by omega]
    rw [List.drop_succ_cons]
theorem step_lt {k n c : Nat} (hc : c ≤ 9) : n % 2 ^ k * 10 + c < 10 * 2 ^ k := by
  have := Nat.mod_lt n (Nat.two_pow_pos k)
  omega
theorem dig_le9 {k n : Nat} (h : n < 10 * 2 ^ k) : n / 2 ^ k ≤ 9 := by
  have := (Nat.div_lt_iff_lt_mul (Nat.two_pow_pos k)).2 h
  omega
theorem rs2_spec (k : Nat) : ∀ (t : List Nat) (n : Nat), (∀ d ∈ t, d ≤ 9) → n < 10 * 2 ^ k → (rs2 k t n).2 < 10 * 2 ^ k ∧ (rs2 k t n).1.length = t.length ∧ (∀ d ∈ (rs2 k t n).1, d ≤ 9) ∧ (t = [] → (rs2 k t n).2 = n) ∧ (t ≠ [] → (rs2 k t n).1.headD 0 = n / 2 ^ k)
  | [], n, _, h => by
    unfold rs2
    exact ⟨h, rfl, (fun d hd => by cases hd), fun _ => rfl, fun h => absurd rfl h⟩
  | c :: t, n, hd, h => by
    unfold rs2
    obtain ⟨x, y, z, _, _⟩ := rs2_spec k t (n % 2 ^ k * 10 + c) (fun x hx => hd x (List.mem_cons_of_mem _ hx)) (step_lt (hd c (List.mem_cons_self ..)))
    refine ⟨x, by simp [y], ?_, (fun h => by cases h), fun _ => rfl⟩
    intro d hd
    rcases List.mem_cons.1 hd with rfl | hd
    · exact dig_le9 h
    · exact z d hd
theorem rs3_spec (k : Nat) : ∀ (f n w : Nat), n < 10 * 2 ^ k → w ≤ 800 → w + (rs3 k f n w).1.length ≤ 800 ∧ (∀ d ∈ (rs3 k f n w).1, d ≤ 9) ∧ (1 ≤ f → 2 ^ k ≤ n → w < 800 → (rs3 k f n w).1.headD 0 = n / 2 ^ k)
  | 0, n, w, h, hw => by
    unfold rs3
    exact ⟨by simpa using hw, (fun d hd => by cases hd), fun h => by omega⟩
  | f + 1, n, w, h, hw => by
    unfold rs3
    have hp := Nat.two_pow_pos k
    have hs := step_lt (k := k) (n := n) (c := 0) (by omega)
    by_cases hn : n = 0
    · rw [if_pos hn]
      exact ⟨by simpa using hw, (fun d hd => by cases hd), fun _ h => by omega⟩
    · rw [if_neg hn]
      by_cases hw8 : w < 800
      · rw [if_pos hw8]
        obtain ⟨x, y, _⟩ := rs3_spec k f (n % 2 ^ k * 10) (w + 1) hs hw8
        refine ⟨by simp; omega, ?_, fun _ _ _ => rfl⟩
        intro d hd
        rcases List.mem_cons.1 hd with rfl | hd
        · exact dig_le9 h
        · exact y d hd
      · rw [if_neg hw8]
        obtain ⟨x, y, _⟩ := rs3_spec k f (n % 2 ^ k * 10) w hs hw
        exact ⟨x, y, fun _ _ h => by omega⟩
/-- The fuel of what is left is enough. -/
def Fu (k f n : Nat) : Prop := n = 0 ∨ ∃ j, j ≤ k ∧ 2 ^ j ∣ n ∧ k + 1 ≤ j + f
theorem Fu.start (k n : Nat) : Fu k (k + 2) n := .inr ⟨0, by omega, by simp, by omega⟩
theorem Fu.pos {k f n : Nat} (h : Fu k f n) (hn : n ≠ 0) : ∃ g, f = g + 1 ∧ Fu k g (n % 2 ^ k * 10) := by
  rcases h with h | ⟨j, h1, h2, h3⟩
  · exact absurd h hn
  · refine ⟨f - 1, by omega, ?_⟩
    by_cases hj : j = k
    · subst hj
      left
      rw [Nat.mod_eq_zero_of_dvd h2]
    · right
      refine ⟨j + 1, by omega, ?_, by omega⟩
      have h4 : 2 ^ j ∣ n % 2 ^ k := (Nat.dvd_mod_iff (Nat.pow_dvd_pow 2 h1)).2 h2
      have : 2 ^ (j + 1) = 2 ^ j * 2 := Nat.pow_succ ..
      rw [this]
      exact Nat.mul_dvd_mul h4 ⟨5, rfl⟩
/-- Before the trim. -/
def Dec.rsh0 (a : Dec) (k : Nat) : Dec :=
  let p := rs1 k a.ds 0 0
  let q := rs2 k p.1 p.2.1
  let t := rs3 k (k + 2) q.2 q.1.length
  ⟨q.1 ++ t.1, a.dp - ((p.2.2 : Int) - 1), a.tr || t.2⟩
theorem rsh_eq (a : Dec) (k : Nat) : a.rsh k = (a.rsh0 k).trim := rfl
theorem headD_append {a b : List Nat} (h : a ≠ []) : (a ++ b).headD 0 = a.headD 0 := by
  cases a with
  | nil => exact absurd rfl h
  | cons x t => rfl
theorem rsh0_ok {a : Dec} (h : a.Ok) (k : Nat) : (a.rsh0 k).Ok ∧ d0 (a.rsh0 k) = (rs1 k a.ds 0 0).2.1 / 2 ^ k := by
  obtain ⟨p, _, hdrop⟩ := rs1_ok h k
  have hdg : ∀ d ∈ (rs1 k a.ds 0 0).1, d ≤ 9 := by rw [hdrop]; exact fun d hd => h.dig d (List.mem_of_mem_drop hd)
  have hl : (rs1 k a.ds 0 0).1.length ≤ 799 := by
    rw [hdrop, List.length_drop]; have := h.len; have := p.r1; omega
  obtain ⟨q1, q2, q3, q4, q5⟩ := rs2_spec k _ _ hdg p.hi
  obtain ⟨t1, t2, t3⟩ := rs3_spec k (k + 2) _ (rs2 k (rs1 k a.ds 0 0).1 (rs1 k a.ds 0 0).2.1).1.length q1 (by omega)
  have hh : d0 (a.rsh0 k) = (rs1 k a.ds 0 0).2.1 / 2 ^ k := by
    show ((rs2 k (rs1 k a.ds 0 0).1 (rs1 k a.ds 0 0).2.1).1 ++ _).headD 0 = _
    by_cases he : (rs1 k a.ds 0 0).1 = []
    · have e1 : (rs2 k (rs1 k a.ds 0 0).1 (rs1 k a.ds 0 0).2.1).1 = [] := List.eq_nil_of_length_eq_zero (by rw [q2, he]; rfl)
      rw [e1, List.nil_append]
      have := t3 (by omega) (by rw [q4 he]; exact p.lo) (by omega)
      rw [e1] at this
      rw [this, q4 he]
    · rw [headD_append, q5 he]
      intro e
      rw [e] at q2
      exact he (List.eq_nil_of_length_eq_zero q2.symm)
  refine ⟨⟨?_, ?_, ?_⟩, hh⟩
  · show ((rs2 k (rs1 k a.ds 0 0).1 (rs1 k a.ds 0 0).2.1).1 ++ (rs3 k (k + 2) (rs2 k (rs1 k a.ds 0 0).1 (rs1 k a.ds 0 0).2.1).2 (rs2 k (rs1 k a.ds 0 0).1 (rs1 k a.ds 0 0).2.1).1.length).1).length ≤ 800
    rw [List.length_append]; exact t1
  · intro d hd
    rcases List.mem_append.1 hd with hd | hd
    · exact q3 d hd
    · exact t2 d hd
  · have e : d0 (a.rsh0 k) = (a.rsh0 k).ds.headD 0 := rfl
    rw [← e, hh]
    have := (Nat.le_div_iff_mul_le (Nat.two_pow_pos k)).2 (show 1 * 2 ^ k ≤ _ by rw [Nat.one_mul]; exact p.lo)
    omega
theorem rsh_ok {a : Dec} (h : a.Ok) (k : Nat) : (a.rsh k).Ok ∧ d0 (a.rsh k) = (rs1 k a.ds 0 0).2.1 / 2 ^ k ∧ (a.rsh k).dp = a.dp - (((rs1 k a.ds 0 0).2.2 : Int) - 1) := by
  obtain ⟨o, e⟩ := rsh0_ok h k
  obtain ⟨x, y, z, _⟩ := trim_ok o
  rw [rsh_eq]
  exact ⟨x, by rw [y, e], z⟩
def muR (a : Dec) : Nat := 10 * a.dp.toNat + d0 a
theorem rsh_mu {a : Dec} (h : a.Ok) (hd : 0 < a.dp) : 0 ≤ (a.rsh (powtab a.dp.toNat)).dp ∧ muR (a.rsh (powtab a.dp.toNat)) < muR a := by
  obtain ⟨o, e1, e2⟩ := rsh_ok h (powtab a.dp.toNat)
  obtain ⟨p, p1, _⟩ := rs1_ok h (powtab a.dp.toNat)
  obtain ⟨t1, t2, t3⟩ := powtab_lt a.dp.toNat (by omega)
  obtain ⟨f1, f2, f3⟩ := o.d0
  obtain ⟨g1, g2, g3⟩ := h.d0
  generalize powtab a.dp.toNat = k at *
  obtain ⟨r, hr⟩ : ∃ r, (rs1 k a.ds 0 0).2.2 = r := ⟨_, rfl⟩
  obtain ⟨n, hn⟩ : ∃ n, (rs1 k a.ds 0 0).2.1 = n := ⟨_, rfl⟩
  rw [hr] at p p1 e2
  rw [hn] at p p1 e1
  have r1 := p.r1
  have hr2 : (r : Int) - 1 ≤ a.dp := by
    rcases p.few with h | h
    · omega
    · have := (Nat.pow_lt_pow_iff_right (show 1 < 10 by omega)).1 (Nat.lt_trans h t1)
      omega
  refine ⟨by omega, ?_⟩
  unfold muR
  rw [e2]
  by_cases h1 : r = 1
  · have hn1 := p1 h1
    have : d0 (a.rsh k) < d0 a := by
      rw [e1, hn1]
      have h8 : 2 ^ 3 ≤ 2 ^ k := Nat.pow_le_pow_right (by omega) t2
      have : d0 a / 2 ^ k ≤ d0 a / 2 ^ 3 := Nat.div_le_div_left h8 (by omega)
      omega
    omega
  · omega
theorem rshN_ok : ∀ (k : Nat) {a : Dec}, a.Ok → (a.rshN k).Ok := by
  intro k
  induction k using Nat.strongRecOn with
  | ind k ih =>
    intro a h
    unfold Dec.rshN
    split
    · exact ih (k - 60) (by omega) (rsh_ok h 60).1
    · exact (rsh_ok h k).1
end PF
/- The loop of readFloat, place by place. No condition. -/
namespace PF
/-- The exponent that comes of a text. -/
def expo (E : RF × List UInt8) : Int := if E.1.man = 0 then 0 else (if E.1.dot then E.1.dp else (E.1.nd : Int)) + exV E.2 - E.1.nm
theorem readF_eq (l : List UInt8) : readF l = ((RF.run (body l) rf0).1.man, expo (RF.run (body l) rf0), (RF.run (body l) rf0).1.tr) := rfl
/-- At place k the state is st; E comes of it. -/
structure Rd (l : List UInt8) (E : RF × List UInt8) (st : RF) (k : Nat) (sv : Bool) : Prop where
  le : k ≤ l.length
  run : RF.run (l.drop k) st = E
  ok : st.Ok k
  okm : okM st.dot sv (l.drop k) = true
  saw : sv = true → st.saw = true
theorem rf0_okk (k : Nat) : rf0.Ok k := ⟨by simp [rf0], by simp [rf0], by simp [rf0], by simp [rf0], by simp [rf0], by simp [rf0], (fun _ h => by cases h), by simp [rf0]⟩
theorem Rd.start {l : List UInt8} {k : Nat} (hk : k ≤ l.length) (hm : okM false false (l.drop k) = true) : Rd l (RF.run (l.drop k) rf0) rf0 k false := ⟨hk, rfl, rf0_okk k, hm, fun h => by cases h⟩
theorem Rd.cons {l : List UInt8} {k : Nat} (hk : k < l.length) : l.drop k = l[k] :: l.drop (k + 1) := List.drop_eq_getElem_cons hk
theorem Rd.step {l : List UInt8} {E : RF × List UInt8} {st st' : RF} {k : Nat} {sv sv' : Bool} (h : Rd l E st k sv) (hk : k < l.length) (hs : st.step l[k] = some st') (hm : okM st'.dot sv' (l.drop (k + 1)) = true) (hv : sv' = true → st'.saw = true) : Rd l E st' (k + 1) sv' :=
  ⟨hk, by rw [← RF.run_some hs, ← Rd.cons hk]; exact h.run, h.ok.step hs, hm, hv⟩
theorem Rd.digit {l : List UInt8} {E : RF × List UInt8} {st : RF} {k : Nat} {sv : Bool} (h : Rd l E st k sv) (hk : k < l.length) (hd : isDig l[k] = true) :
    (l[k] = 48 ∧ st.nd = 0 → Rd l E { st with saw := true, dp := st.dp - 1 } (k + 1) true) ∧
    (¬(l[k] = 48 ∧ st.nd = 0) → st.nm < 19 → Rd l E { st with saw := true, ds := st.ds ++ [l[k].toNat - 48], man := st.man * 10 + (l[k].toNat - 48), nm := st.nm + 1 } (k + 1) true) ∧
    (¬(l[k] = 48 ∧ st.nd = 0) → ¬st.nm < 19 → Rd l E { st with saw := true, ds := st.ds ++ [l[k].toNat - 48], tr := st.tr || decide (l[k] ≠ 48) } (k + 1) true) := by
  have h46 : ¬l[k] = 46 := by intro e; rw [e] at hd; revert hd; decide
  have hm := h.okm
  rw [Rd.cons hk] at hm
  unfold okM at hm
  rw [if_pos hd] at hm
  refine ⟨fun hz => h.step hk ?_ hm fun _ => rfl, fun hz hn => h.step hk ?_ hm fun _ => rfl, fun hz hn => h.step hk ?_ hm fun _ => rfl⟩
  · unfold RF.step; rw [if_neg h46, if_pos hd, if_pos hz]
  · unfold RF.step; rw [if_neg h46, if_pos hd, if_neg hz, if_pos hn]
  · unfold RF.step; rw [if_neg h46, if_pos hd, if_neg hz, if_neg hn]
theorem Rd.point {l : List UInt8} {E : RF × List UInt8} {st : RF} {k : Nat} {sv : Bool} (h : Rd l E st k sv) (hk : k < l.length) (hd : l[k] = 46) : st.dot = false ∧ Rd l E { st with dot := true, dp := st.nd } (k + 1) true := by
  have hm := h.okm
  rw [Rd.cons hk] at hm
  unfold okM at hm
  rw [if_neg (by rw [hd]; decide), if_pos hd] at hm
  simp only [Bool.and_eq_true, Bool.not_eq_true'] at hm
  refine ⟨hm.1.1, h.step hk ?_ (okM_saw _ hm.2) fun _ => h.saw hm.1.2⟩
  unfold RF.step
  rw [if_pos hd, hm.1.1]
  rfl
theorem Rd.exp {l : List UInt8} {E : RF × List UInt8} {st : RF} {k : Nat} {sv : Bool} (h : Rd l E st k sv) (hk : k < l.length) (hd : isDig l[k] = false) (hp : ¬l[k] = 46) : (l[k] = 101 ∨ l[k] = 69) ∧ E = (st, l[k] :: l.drop (k + 1)) ∧ st.saw = true ∧ okX (l.drop (k + 1)) = true := by
  have hm := h.okm
  rw [Rd.cons hk] at hm
  unfold okM at hm
  rw [if_neg (by rw [hd]; decide), if_neg hp] at hm
  simp only [Bool.and_eq_true, Bool.or_eq_true, decide_eq_true_eq] at hm
  refine ⟨hm.1, ?_, h.saw hm.2.1, hm.2.2⟩
  rw [← h.run, Rd.cons hk, RF.run_none]
  unfold RF.step
  rw [if_neg hp, if_neg (by rw [hd]; decide)]
theorem Rd.fin {l : List UInt8} {E : RF × List UInt8} {st : RF} {sv : Bool} (h : Rd l E st l.length sv) : E = (st, []) ∧ st.saw = true := by
  have hm := h.okm
  have hr := h.run
  rw [List.drop_length] at hm hr
  exact ⟨hr.symm, h.saw (by simpa [okM] using hm)⟩
/-- Behind the e: perhaps a sign, then digits. -/
theorem okX_cases {r : List UInt8} (h : okX r = true) : ∃ c t, r = c :: t ∧ ((c = 43 ∧ okD t = true) ∨ (c = 45 ∧ okD t = true) ∨ (c ≠ 43 ∧ c ≠ 45 ∧ okD (c :: t) = true)) := by
  cases r with
  | nil => simp [okX] at h
  | cons c t =>
    refine ⟨c, t, rfl, ?_⟩
    have h : (if c = 43 ∨ c = 45 then okD t else okD (c :: t)) = true := h
    by_cases h1 : c = 43
    · rw [if_pos (.inl h1)] at h; exact .inl ⟨h1, h⟩
    · by_cases h2 : c = 45
      · rw [if_pos (.inr h2)] at h; exact .inr (.inl ⟨h2, h⟩)
      · rw [if_neg (by simp [h1, h2])] at h; exact .inr (.inr ⟨h1, h2, h⟩)
end PF
/- A float's sign turned. No condition. -/
namespace PF
theorem xor63 (x : Nat) (h : x < 9223372036854775808) : x ^^^ 9223372036854775808 = x + 9223372036854775808 := by
  have hl : x < 2 ^ 63 := h
  have e : x + 9223372036854775808 = x ||| 2 ^ 63 := by
    rw [Nat.or_comm, Nat.add_comm]
    exact Nat.two_pow_add_eq_or_of_lt hl 1
  rw [e]
  show x ^^^ 2 ^ 63 = _
  apply Nat.eq_of_testBit_eq
  intro i
  rw [Nat.testBit_xor, Nat.testBit_or, Nat.testBit_two_pow]
  by_cases hi : 63 = i
  · subst hi
    rw [Nat.testBit_lt_two_pow hl]
    simp
  · simp [hi]
end PF
/- What ParseFloat answers, in plain Lean: the bits, and whether they are said to be too great. No condition. -/
namespace PF
theorem fbits_fin (neg : Bool) (a : Dec) : ((fbits neg a).2 = false → Fin (fbits neg a).1) ∧ ((fbits neg a).2 = true → Inf (fbits neg a).1) ∧ (fbits neg a).1 < 18446744073709551616 := by
  have hs : ∀ n : Bool, (if n then 2 ^ 63 else 0 : Nat) = 0 ∨ (if n then 2 ^ 63 else 0 : Nat) = 9223372036854775808 := by intro n; cases n <;> simp
  have h52 : (2 : Nat) ^ 52 = 4503599627370496 := by decide
  have h63 : (2 : Nat) ^ 63 = 9223372036854775808 := by decide
  have inf : ∀ n : Bool, Inf (2047 * 2 ^ 52 + (if n then 2 ^ 63 else 0)) ∧ 2047 * 2 ^ 52 + (if n then 2 ^ 63 else 0) < 18446744073709551616 := by
    intro n; cases n <;> unfold Inf <;> decide
  have zer : ∀ n : Bool, Fin (if n then 2 ^ 63 else 0) ∧ (if n then 2 ^ 63 else 0) < 18446744073709551616 := by
    intro n; cases n <;> unfold Fin <;> decide
  unfold fbits
  dsimp only
  split
  · exact ⟨fun _ => (zer neg).1, (fun h => by cases h), (zer neg).2⟩
  split
  · exact ⟨(fun h => by cases h), fun _ => (inf neg).1, (inf neg).2⟩
  split
  · exact ⟨fun _ => (zer neg).1, (fun h => by cases h), (zer neg).2⟩
  generalize fb2 5000 (fb1 5000 a 0).1 (fb1 5000 a 0).2 = q
  generalize (if q.2 - 1 < -1022 then (q.1.rshN (-1022 - (q.2 - 1)).toNat, (-1022 : Int)) else (q.1, q.2 - 1)) = b
  split
  · exact ⟨(fun h => by cases h), fun _ => (inf neg).1, (inf neg).2⟩
  generalize rint (b.1.lsh 53) = m
  split
  · exact ⟨(fun h => by cases h), fun _ => (inf neg).1, (inf neg).2⟩
  rename_i h1 h2
  have key : ∀ (c : Nat × Int), c.2 + 1023 < 2047 → Fin (c.1 % 2 ^ 52 + (((if c.1 / 2 ^ 52 % 2 = 0 then -1023 else c.2) + 1023).toNat % 2048) * 2 ^ 52 + (if neg then 2 ^ 63 else 0)) ∧ c.1 % 2 ^ 52 + (((if c.1 / 2 ^ 52 % 2 = 0 then -1023 else c.2) + 1023).toNat % 2048) * 2 ^ 52 + (if neg then 2 ^ 63 else 0) < 18446744073709551616 := by
    intro c hc
    have hm : c.1 % 2 ^ 52 < 2 ^ 52 := Nat.mod_lt _ (by decide)
    have hx : ((if c.1 / 2 ^ 52 % 2 = 0 then -1023 else c.2) + 1023).toNat ≤ 2046 := by split <;> omega
    generalize ((if c.1 / 2 ^ 52 % 2 = 0 then -1023 else c.2) + 1023).toNat = x at *
    generalize c.1 % 2 ^ 52 = y at *
    rw [Nat.mod_eq_of_lt (by omega : x < 2048), h52] at *
    unfold Fin
    rcases hs neg with h | h <;> rw [h] <;> constructor <;> omega
  have k := key (if m = 2 ^ 53 then (2 ^ 52, b.2 + 1) else (m, b.2)) (by split <;> simp only <;> omega)
  exact ⟨fun _ => k.1, (fun h => by cases h), k.2⟩
/-- Are two floats alike? -/
def eqF (x y : Nat) : Bool := Ieee.double.order x y == some .eq
/-- The decimal of a text. -/
def decOf (l : List UInt8) : Dec :=
  let (st, rest) := RF.run (body l) rf0
  ⟨st.ds, (if st.dot then st.dp else st.nd) + exV rest, false⟩
def atof (T : Int → Nat × Nat) (F : Nat → Nat) (l : List UInt8) : Nat × Bool :=
  let n := isNeg l
  let r := readF l
  if r.1 = 0 then (sgn n, false)
  else if 310 < r.2.1 then (sgn n + 9218868437227405312, true)
  else if r.2.1 < -345 then (sgn n, false)
  else match (if r.2.2 then none else exact64 F r.1 r.2.1 n) with
    | some f => (f, false)
    | none =>
      if r.2.2 then (if eqF (par64 T r.1 r.2.1 n).1 (par64 T (r.1 + 1) r.2.1 n).1 then par64 T r.1 r.2.1 n else fbits n (decOf l))
      else par64 T r.1 r.2.1 n
theorem sgn_fin (n : Bool) : Fin (sgn n) ∧ sgn n < 18446744073709551616 ∧ Inf (sgn n + 9218868437227405312) ∧ sgn n + 9218868437227405312 < 18446744073709551616 := by
  cases n <;> unfold Fin Inf <;> decide
theorem atof_fin {T : Int → Nat × Nat} (hT : ∀ p, (T p).1 < two64) {F : Nat → Nat} (hF : TabOk F) (l : List UInt8) : ((atof T F l).2 = false → Fin (atof T F l).1) ∧ ((atof T F l).2 = true → Inf (atof T F l).1) ∧ (atof T F l).1 < 18446744073709551616 := by
  have s := sgn_fin (isNeg l)
  unfold atof
  dsimp only
  split
  · exact ⟨fun _ => s.1, (fun h => by cases h), s.2.1⟩
  split
  · exact ⟨(fun h => by cases h), fun _ => s.2.2.1, s.2.2.2⟩
  split
  · exact ⟨fun _ => s.1, (fun h => by cases h), s.2.1⟩
  split
  · rename_i f hf
    split at hf
    · cases hf
    · obtain ⟨a, b⟩ := exact64_fin hF hf
      exact ⟨fun _ => a, (fun h => by cases h), b⟩
  · split
    · split
      · exact par64_fin T hT _ _ _
      · exact fbits_fin _ _
    · exact par64_fin T hT _ _ _
end PF
