/- Plain facts on sums of floats of 64 bits: numbers that are the same, or opposite, up to the sign of nought stay so when the same, or opposite, numbers are added; no such sum is a NaN. No program in sight. -/
import Derived.Test.YtogiollmghnoaaaFloat
namespace Go.Proofs.Ytogiollmghnoaaa
open Ieee
/-- the same (s false), or opposite (s true), up to the sign of nought -/
def RelD (s : Bool) : Datum → Datum → Prop
  | .number t m i, .number t' m' i' => m = m' ∧ i = i' ∧ (m = 0 ∨ t' = (t ^^ s))
  | .infinity t, .infinity t' => t' = (t ^^ s)
  | _, _ => False
def isNum : Datum → Prop
  | .number .. => True
  | _ => False
theorem signed_zero (t : Bool) (k : Nat) : signed t 0 k = 0 := by cases t <;> simp [signed]
theorem signed_xor (t s : Bool) (m k : Nat) : signed (t ^^ s) m k = if s then - signed t m k else signed t m k := by
  cases t <;> cases s <;> simp [signed]
theorem signed_rel {t t' s : Bool} {m : Nat} (h : m = 0 ∨ t' = (t ^^ s)) (k : Nat) : signed t' m k = if s then - signed t m k else signed t m k := by
  rcases h with rfl | rfl
  · rw [signed_zero, signed_zero]; split <;> rfl
  · exact signed_xor t s m k
theorem sum_rel {s : Bool} {x x' y y' : Datum} (h : RelD s x x') (hy : RelD s y y') (hn : isNum y) : ∃ d d', x.sum y = some d ∧ x'.sum y' = some d' ∧ RelD s d d' := by
  cases y with
  | nan => exact hn.elim
  | infinity => exact hn.elim
  | number u n j =>
    cases y' with
    | nan => exact hy.elim
    | infinity => exact hy.elim
    | number u' n' j' =>
      obtain ⟨rfl, rfl, hu⟩ := hy
      cases x with
      | nan => cases x' <;> exact h.elim
      | infinity t =>
        cases x' with
        | nan => exact h.elim
        | number => exact h.elim
        | infinity t' => exact ⟨_, _, rfl, rfl, h⟩
      | number t m i =>
        cases x' with
        | nan => exact h.elim
        | infinity => exact h.elim
        | number t' m' i' =>
          obtain ⟨rfl, rfl, ht⟩ := h
          refine ⟨_, _, rfl, rfl, ?_⟩
          rw [signed_rel ht, signed_rel hu]
          generalize signed t m (i - min i j).toNat = a
          generalize signed u n (j - min i j).toNat = b
          refine ⟨?_, rfl, ?_⟩
          · cases s
            · rfl
            · simp only [if_true]; omega
          · cases s
            · by_cases h0 : a + b = 0
              · left; omega
              · right; simp [h0]
            · by_cases h0 : a + b = 0
              · left; omega
              · right
                have h1 : ¬ (-a + -b = 0) := by omega
                simp only [if_true, if_neg h0, if_neg h1, Bool.xor_true]
                by_cases h2 : a + b < 0
                · have h3 : ¬ (-a + -b < 0) := by omega
                  simp [h2, h3]
                · have h3 : -a + -b < 0 := by omega
                  simp [h2, h3]
theorem read_word (t : Bool) (g : Nat) (h : g ≤ double.infRung) : double.read (double.word t g) =
    if g < double.binade then .number t g double.leastPlace else if g < double.infRung then .number t (double.binade + g % double.binade) (double.leastPlace + (g / double.binade - 1 : Nat)) else .infinity t := by
  have hsw : double.signWeight = 2 ^ 63 := rfl
  have hlt := double.infRung_lt
  have key : double.word t g % 2 ^ 63 = g ∧ (double.word t g / 2 ^ 63 % 2 == 1) = t := by
    unfold Format.word
    rw [hsw] at hlt ⊢
    cases t
    · simp only [Bool.false_eq_true, if_false]
      refine ⟨by omega, ?_⟩
      have : g / 2 ^ 63 % 2 = 0 := by omega
      rw [this]; rfl
    · simp only [if_true]
      refine ⟨by omega, ?_⟩
      have : (2 ^ 63 + g) / 2 ^ 63 % 2 = 1 := by omega
      rw [this]; rfl
  unfold Format.read
  rw [hsw, key.1, key.2]
  dsimp only
  split
  · rfl
  · split
    · rfl
    · rw [if_pos (by omega)]
/-- the rung of the nearest word hangs on no sign -/
def rung (mag : Nat) (place : Int) : Nat :=
  if mag = 0 then 0 else
  let last := max (place + mag.log2 - double.fractionBits) double.leastPlace
  let kept := Toward.even.cut false (mag <<< (place - last).toNat) (last - place).toNat
  min ((last - double.leastPlace).toNat * double.binade + kept) double.infRung
theorem nearest_rung (t : Bool) (mag : Nat) (place : Int) : double.nearest t mag place = double.word t (rung mag place) := by
  unfold Format.nearest rung
  split
  · rfl
  · rfl
theorem rung_le (mag : Nat) (place : Int) : rung mag place ≤ double.infRung := by
  unfold rung
  split
  · exact Nat.zero_le _
  · exact Nat.min_le_right _ _
theorem rung_zero (place : Int) : rung 0 place = 0 := rfl
theorem write_rel {s : Bool} {d d' : Datum} (h : RelD s d d') : RelD s (double.read (double.write d)) (double.read (double.write d')) := by
  cases d with
  | nan => cases d' <;> exact h.elim
  | infinity t =>
    cases d' with
    | nan => exact h.elim
    | number => exact h.elim
    | infinity t' =>
      show RelD s (double.read (double.word t double.infRung)) (double.read (double.word t' double.infRung))
      have hi : ¬ double.infRung < double.binade := by decide
      rw [read_word t _ (Nat.le_refl _), read_word t' _ (Nat.le_refl _), if_neg hi, if_neg (Nat.lt_irrefl _), if_neg hi, if_neg (Nat.lt_irrefl _)]
      exact h
  | number t m i =>
    cases d' with
    | nan => exact h.elim
    | infinity => exact h.elim
    | number t' m' i' =>
      obtain ⟨rfl, rfl, ht⟩ := h
      show RelD s (double.read (double.nearest t m i)) (double.read (double.nearest t' m i))
      rw [nearest_rung, nearest_rung, read_word _ _ (rung_le m i), read_word _ _ (rung_le m i)]
      rcases ht with rfl | rfl
      · rw [rung_zero, if_pos (by decide), if_pos (by decide)]
        exact ⟨rfl, rfl, .inl rfl⟩
      · split
        · exact ⟨rfl, rfl, .inr rfl⟩
        · split
          · exact ⟨rfl, rfl, .inr rfl⟩
          · rfl
/-- two words that stand for the same, or opposite, numbers -/
def Rel (s : Bool) (x x' : Nat) : Prop := RelD s (double.read x) (double.read x')
theorem addR_rel {s : Bool} {x x' y y' r r' : Nat} (h : Rel s x x') (hy : Rel s y y') (hn : isNum (double.read y)) (a : addR x y r) (a' : addR x' y' r') : Rel s r r' := by
  obtain ⟨d, d', e, e', hd⟩ := sum_rel h hy hn
  unfold addR Format.add at a a'
  rw [e] at a; rw [e'] at a'
  dsimp only [Option.map_some] at a a'
  subst a; subst a'
  exact write_rel hd
theorem Rel.self {x : Nat} (h : isNum (double.read x)) : Rel false x x := by
  unfold Rel
  cases hx : double.read x with
  | number => exact ⟨rfl, rfl, .inr (by simp)⟩
  | infinity => rw [hx] at h; exact h.elim
  | nan => rw [hx] at h; exact h.elim
theorem relD_opp {x : Datum} (h : isNum x) : RelD true x x.opposite := by
  cases x with
  | number => exact ⟨rfl, rfl, .inr (by simp)⟩
  | infinity => exact h.elim
  | nan => exact h.elim
theorem relD_opp' {x : Datum} (h : isNum x) : RelD true x.opposite x := by
  cases x with
  | number => exact ⟨rfl, rfl, .inr (by simp)⟩
  | infinity => exact h.elim
  | nan => exact h.elim
theorem order_rel {x y : Datum} (h : RelD false x y) : x.order y = some .eq := by
  cases x with
  | nan => cases y <;> exact h.elim
  | infinity t =>
    cases y with
    | nan => exact h.elim
    | number => exact h.elim
    | infinity t' =>
      have : t' = t := by simpa [RelD] using h
      subst this
      cases t' <;> rfl
  | number t m i =>
    cases y with
    | nan => exact h.elim
    | infinity => exact h.elim
    | number t' m' i' =>
      obtain ⟨rfl, rfl, ht⟩ := h
      have e := signed_rel ht (i - min i i).toNat
      dsimp only [Datum.order]
      rw [e]
      simp [compare, compareOfLessAndEq]
theorem order_opp {x y : Datum} (h : RelD true x y) : x.order y.opposite = some .eq := by
  refine order_rel ?_
  cases x with
  | nan => cases y <;> exact h.elim
  | infinity t =>
    cases y with
    | nan => exact h.elim
    | number => exact h.elim
    | infinity t' =>
      have : t' = !t := by simpa [RelD] using h
      subst this
      simp [RelD, Datum.opposite]
  | number t m i =>
    cases y with
    | nan => exact h.elim
    | infinity => exact h.elim
    | number t' m' i' =>
      obtain ⟨rfl, rfl, ht⟩ := h
      refine ⟨rfl, rfl, ?_⟩
      rcases ht with h | rfl
      · exact .inl h
      · right; simp
theorem not_nan_of_rel {s : Bool} {x y : Nat} (h : Rel s x y) : ¬ isN x := by
  intro hx
  obtain ⟨t, f, e⟩ := isN_iff.1 hx
  unfold Rel at h
  rw [e] at h
  cases hy : double.read y <;> rw [hy] at h <;> exact h.elim
theorem small_num (t : Bool) (m : Nat) (h : m < 2 ^ 16) : isNum (double.read (double.nearest t m 0)) := by
  have hl : rung m 0 < double.infRung := by
    unfold rung
    split
    · decide
    · rename_i h0
      have h15 : m.log2 < 16 := (Nat.log2_lt h0).2 h
      have hfb : double.fractionBits = 52 := rfl
      have hlp : double.leastPlace = -1074 := by decide
      have hbin : double.binade = 2 ^ 52 := rfl
      have hinf : double.infRung = 2047 * 2 ^ 52 := rfl
      have hmax : max ((0 : Int) + (m.log2 : Int) - (double.fractionBits : Nat)) double.leastPlace = (m.log2 : Int) - 52 := by rw [hfb, hlp]; omega
      dsimp only
      rw [hmax, hlp, hbin, hinf]
      have e1 : ((m.log2 : Int) - 52 - 0).toNat = 0 := by omega
      have e2 : (0 - ((m.log2 : Int) - 52)).toNat = 52 - m.log2 := by omega
      rw [e1, e2]
      have hcut : ∀ n, Toward.even.cut false n 0 = n := by
        intro n
        have hg : (1 <<< min 0 (n.log2 + 2) : Nat) = 1 := by rw [Nat.zero_min]; rfl
        unfold Toward.cut
        dsimp only
        rw [hg]
        have h1 : n % 1 = 0 := Nat.mod_one n
        have h2 : n / 1 = n := Nat.div_one n
        rw [h1, h2]
        simp
      rw [hcut, Nat.shiftLeft_eq]
      have hb : m * 2 ^ (52 - m.log2) < 2 ^ 53 := by
        have h1 : m < 2 ^ (m.log2 + 1) := Nat.lt_log2_self
        have h2 : m * 2 ^ (52 - m.log2) < 2 ^ (m.log2 + 1) * 2 ^ (52 - m.log2) := Nat.mul_lt_mul_of_pos_right h1 (Nat.two_pow_pos _)
        rw [← Nat.pow_add, show m.log2 + 1 + (52 - m.log2) = 53 from by omega] at h2
        exact h2
      have e3 : ((m.log2 : Int) - 52 - -1074).toNat = m.log2 + 1022 := by omega
      rw [e3]
      have : (m.log2 + 1022) * 2 ^ 52 ≤ 1037 * 2 ^ 52 := Nat.mul_le_mul_right _ (by omega)
      refine Nat.lt_of_le_of_lt (Nat.min_le_left _ _) ?_
      generalize m * 2 ^ (52 - m.log2) = z at *
      omega
  rw [nearest_rung, read_word _ _ (rung_le m 0)]
  split
  · trivial
  · trivial
end Go.Proofs.Ytogiollmghnoaaa
