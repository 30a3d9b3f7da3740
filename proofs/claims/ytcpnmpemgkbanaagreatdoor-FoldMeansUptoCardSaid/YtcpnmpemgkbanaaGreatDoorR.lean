/- Plain facts on floats of 64 bits: whole numbers below 2^53 are added exactly; a quotient of numbers is a number. No program in sight. -/
import Derived.Test.YtcpnmpemgkbanaaGreatDoorE
namespace Go.Proofs.YtcpnmpemgkbanaaGreatDoor
open Ieee
def fI (v : Int) : Nat := double.nearest (v < 0) v.natAbs 0
theorem fI_is (v : Int) : Go.floatOfInt .f64 v = fI v := rfl
theorem cut_exact (n k q : Nat) (h : n = q * 2 ^ k) (hk : k ≤ n.log2 + 2) : Toward.even.cut false n k = q := by
  unfold Toward.cut
  dsimp only
  rw [Nat.min_eq_left hk, Nat.one_shiftLeft]
  have h1 : n / 2 ^ k = q := by rw [h]; exact Nat.mul_div_cancel _ (Nat.two_pow_pos _)
  have h2 : n % 2 ^ k = 0 := by rw [h]; exact Nat.mul_mod_left _ _
  rw [h1, h2]
  have h3 := Nat.two_pow_pos k
  have h4 : ¬ (2 ^ k < 2 * 0) := by omega
  have h5 : ¬ (2 ^ k = 2 * 0) := by omega
  simp [h4]
theorem log2_mul (m k : Nat) (h : m ≠ 0) : (m * 2 ^ k).log2 = m.log2 + k := by
  have h0 : m * 2 ^ k ≠ 0 := Nat.mul_ne_zero h (by have := Nat.two_pow_pos k; omega)
  rw [Nat.log2_eq_iff h0]
  have h1 := (Nat.log2_eq_iff h).1 rfl
  refine ⟨?_, ?_⟩
  · rw [Nat.pow_add]
    exact Nat.mul_le_mul_right _ h1.1
  · rw [show m.log2 + k + 1 = (m.log2 + 1) + k by omega, Nat.pow_add]
    exact Nat.mul_lt_mul_of_pos_right h1.2 (Nat.two_pow_pos _)
theorem lp : double.leastPlace = -1074 := by decide
theorem fb : double.fractionBits = 52 := rfl
theorem bn : double.binade = 2 ^ 52 := rfl
theorem ir : double.infRung = 2047 * 2 ^ 52 := rfl
theorem norm_bd (m : Nat) (h0 : m ≠ 0) (h : m < 2 ^ 53) : 2 ^ 52 ≤ m * 2 ^ (52 - m.log2) ∧ m * 2 ^ (52 - m.log2) < 2 ^ 53 := by
  have hL : m.log2 < 53 := (Nat.log2_lt h0).2 h
  have h1 := (Nat.log2_eq_iff h0).1 rfl
  refine ⟨?_, ?_⟩
  · have h2 : 2 ^ m.log2 * 2 ^ (52 - m.log2) ≤ m * 2 ^ (52 - m.log2) := Nat.mul_le_mul_right _ h1.1
    rw [← Nat.pow_add, show m.log2 + (52 - m.log2) = 52 by omega] at h2
    exact h2
  · have h2 : m * 2 ^ (52 - m.log2) < 2 ^ (m.log2 + 1) * 2 ^ (52 - m.log2) := Nat.mul_lt_mul_of_pos_right h1.2 (Nat.two_pow_pos _)
    rw [← Nat.pow_add, show m.log2 + 1 + (52 - m.log2) = 53 by omega] at h2
    exact h2
set_option maxRecDepth 100000 in
/-- The rung of a whole number below 2^53, however it is written. -/
theorem rung_int (m K z : Nat) (h0 : m ≠ 0) (h : m < 2 ^ 53) (hz : m * 2 ^ (52 - m.log2) = z) : rung (m * 2 ^ K) (-(K : Int)) = (m.log2 + 1022) * 2 ^ 52 + z := by
  have hL : m.log2 < 53 := (Nat.log2_lt h0).2 h
  have hne : m * 2 ^ K ≠ 0 := Nat.mul_ne_zero h0 (by have := Nat.two_pow_pos K; omega)
  unfold rung
  rw [if_neg hne]
  dsimp only
  rw [log2_mul m K h0, lp, fb, bn, ir]
  have hmax : max (-(K : Int) + ((m.log2 + K : Nat) : Int) - (52 : Nat)) (-1074) = (m.log2 : Int) - 52 := by omega
  rw [hmax]
  have hkept : Toward.even.cut false ((m * 2 ^ K) <<< (-(K : Int) - ((m.log2 : Int) - 52)).toNat) ((m.log2 : Int) - 52 - -(K : Int)).toNat = z := by
    rw [← hz]
    by_cases hK : K + m.log2 ≤ 52
    · have e1 : ((m.log2 : Int) - 52 - -(K : Int)).toNat = 0 := by omega
      have e2 : (-(K : Int) - ((m.log2 : Int) - 52)).toNat = 52 - m.log2 - K := by omega
      rw [e1, e2, cut_zero, Nat.shiftLeft_eq, Nat.mul_assoc, ← Nat.pow_add]
      congr 2
      omega
    · have e1 : ((m.log2 : Int) - 52 - -(K : Int)).toNat = K - (52 - m.log2) := by omega
      have e2 : (-(K : Int) - ((m.log2 : Int) - 52)).toNat = 0 := by omega
      rw [e1, e2, Nat.shiftLeft_zero]
      refine cut_exact _ _ _ ?_ ?_
      · rw [Nat.mul_assoc, ← Nat.pow_add]
        congr 2
        omega
      · rw [log2_mul m K h0]; omega
  rw [hkept]
  have e3 : ((m.log2 : Int) - 52 - -1074).toNat = m.log2 + 1022 := by omega
  rw [e3]
  have hb := (norm_bd m h0 h).2
  rw [hz] at hb
  have : (m.log2 + 1022) * 2 ^ 52 ≤ 1074 * 2 ^ 52 := Nat.mul_le_mul_right _ (by omega)
  have n2 : (2 : Nat) ^ 52 = 4503599627370496 := by decide
  have n3 : (2 : Nat) ^ 53 = 9007199254740992 := by decide
  rw [n3] at hb
  rw [n2] at this ⊢
  refine Nat.min_eq_left ?_
  exact Nat.le_trans (Nat.add_le_add this (Nat.le_of_lt hb)) (by decide)
set_option maxRecDepth 100000 in
/-- What a whole number's word reads as. -/
theorem read_int (t : Bool) (m : Nat) (h0 : m ≠ 0) (h : m < 2 ^ 53) : double.read (double.nearest t m 0) = .number t (m * 2 ^ (52 - m.log2)) ((m.log2 : Int) - 52) := by
  obtain ⟨b1, b2⟩ := norm_bd m h0 h
  obtain ⟨z, hz⟩ : ∃ z, m * 2 ^ (52 - m.log2) = z := ⟨_, rfl⟩
  rw [hz] at b1 b2 ⊢
  have hr := rung_int m 0 z h0 h hz
  rw [Nat.pow_zero, Nat.mul_one, show (-((0 : Nat) : Int)) = 0 by simp] at hr
  have hL : m.log2 < 53 := (Nat.log2_lt h0).2 h
  have hlt := int_rung m (Nat.lt_trans h (by decide))
  rw [nearest_rung, read_word _ _ (rung_le m 0), hr]
  rw [hr, ir] at hlt
  rw [bn, ir, lp]
  have e1 : ((m.log2 + 1022) * 2 ^ 52 + z) / 2 ^ 52 = m.log2 + 1023 := by omega
  have e2 : ((m.log2 + 1022) * 2 ^ 52 + z) % 2 ^ 52 = z - 2 ^ 52 := by omega
  rw [if_neg (by omega), if_pos hlt, e1, e2]
  have e3 : 2 ^ 52 + (z - 2 ^ 52) = z := by omega
  have e4 : (-1074 : Int) + ((m.log2 + 1023 - 1 : Nat) : Int) = (m.log2 : Int) - 52 := by omega
  rw [e3, e4]
theorem read_zero : double.read (fI 0) = .number false 0 (-1074) := by decide
theorem signed_int (v : Int) (K : Nat) : signed (decide (v < 0)) v.natAbs K = v * 2 ^ K := by
  unfold signed
  rw [Nat.shiftLeft_eq]
  by_cases h : v < 0
  · simp only [h, decide_true, if_true]
    rw [Int.natCast_mul, ← Int.neg_mul]
    congr 1
    omega
  · simp only [h, decide_false, Bool.false_eq_true, if_false]
    rw [Int.natCast_mul]
    congr 1
    omega
theorem signed_norm (v : Int) (j : Nat) : signed (decide (v < 0)) (v.natAbs * 2 ^ (52 - v.natAbs.log2)) j = v * 2 ^ (52 - v.natAbs.log2 + j) := by
  have h := signed_int v (52 - v.natAbs.log2 + j)
  rw [← h]
  unfold signed
  rw [Nat.shiftLeft_eq, Nat.shiftLeft_eq, Nat.mul_assoc, ← Nat.pow_add]
/-- A whole number, read: its value at any base below. -/
theorem read_fI (v : Int) (h : v.natAbs < 2 ^ 53) : ∃ m i, double.read (fI v) = .number (decide (v < 0)) m i ∧ i ≤ 0 ∧ ∀ b : Int, b ≤ i → signed (decide (v < 0)) m (i - b).toNat = v * 2 ^ (-b).toNat := by
  by_cases h0 : v = 0
  · subst h0
    refine ⟨0, -1074, read_zero, by omega, fun b hb => ?_⟩
    simp [signed]
  · have hn : v.natAbs ≠ 0 := by omega
    have hL : v.natAbs.log2 < 53 := (Nat.log2_lt hn).2 h
    refine ⟨_, _, read_int _ _ hn h, by omega, fun b hb => ?_⟩
    rw [signed_norm v _]
    congr 2
    omega
theorem nearest_int (v : Int) (K : Nat) (h : v.natAbs < 2 ^ 53) (hv : v ≠ 0) : double.nearest (decide (v < 0)) (v.natAbs * 2 ^ K) (-(K : Int)) = fI v := by
  have hn : v.natAbs ≠ 0 := by omega
  unfold fI
  rw [nearest_rung, nearest_rung, rung_int _ K _ hn h rfl]
  have := rung_int v.natAbs 0 _ hn h rfl
  rw [Nat.pow_zero, Nat.mul_one, show (-((0 : Nat) : Int)) = 0 by simp] at this
  rw [this]
set_option maxRecDepth 100000 in
theorem fadd_int (a b : Int) (ha : a.natAbs < 2 ^ 53) (hb : b.natAbs < 2 ^ 53) (hab : (a + b).natAbs < 2 ^ 53) : fadd (fI a) (fI b) = fI (a + b) := by
  obtain ⟨m, i, e1, hi, s1⟩ := read_fI a ha
  obtain ⟨n, j, e2, hj, s2⟩ := read_fI b hb
  unfold fadd Format.add
  rw [e1, e2]
  simp only [Datum.sum, Option.map_some, Option.getD_some]
  rw [s1 (min i j) (by omega), s2 (min i j) (by omega), ← Int.add_mul]
  obtain ⟨K, hK⟩ : ∃ K : Nat, (-(min i j)).toNat = K := ⟨_, rfl⟩
  have hmin : min i j = -(K : Int) := by omega
  rw [hK, hmin]
  have hp : (0 : Int) < 2 ^ K := Int.pow_pos (by omega)
  by_cases h0 : a + b = 0
  · rw [h0, Int.zero_mul, if_pos rfl]
    have hs : (decide (a < 0) && decide (b < 0)) = false := by
      by_cases h1 : a < 0
      · have : ¬ b < 0 := by omega
        simp [this]
      · simp [h1]
    rw [hs]
    show double.nearest false 0 _ = double.nearest (decide ((0 : Int) < 0)) 0 0
    simp [Format.nearest]
  · have hne : (a + b) * 2 ^ K ≠ 0 := Int.mul_ne_zero h0 (by omega)
    rw [if_neg hne]
    have hs : decide ((a + b) * 2 ^ K < 0) = decide (a + b < 0) := by
      rw [decide_eq_decide]
      constructor
      · intro h
        refine Int.not_le.1 fun h1 => ?_
        have := Int.mul_nonneg h1 (Int.le_of_lt hp)
        omega
      · intro h
        exact Int.mul_neg_of_neg_of_pos h hp
    have hm : ((a + b) * 2 ^ K).natAbs = (a + b).natAbs * 2 ^ K := by
      rw [Int.natAbs_mul]
      congr 1
    rw [hs, hm]
    exact nearest_int (a + b) K hab h0
theorem cut_le' (n k : Nat) (h : n < 2 ^ 53 * 2 ^ k) : Toward.even.cut false n k ≤ 2 ^ 53 := by
  by_cases hk : k ≤ n.log2 + 2
  · exact cut_le n k (2 ^ 53) h hk
  · unfold Toward.cut
    dsimp only
    rw [Nat.min_eq_right (by omega), Nat.one_shiftLeft]
    have h1 : n / 2 ^ (n.log2 + 2) = 0 := Nat.div_eq_of_lt (Nat.lt_trans Nat.lt_log2_self (Nat.pow_lt_pow_right (by omega) (by omega)))
    rw [h1]
    generalize (decide (2 ^ (n.log2 + 2) < 2 * (n % 2 ^ (n.log2 + 2))) || 2 ^ (n.log2 + 2) == 2 * (n % 2 ^ (n.log2 + 2)) && 0 % 2 == 1) = b
    cases b <;> simp [Bool.toNat]
set_option maxRecDepth 100000 in
theorem rung_fin (m : Nat) (p : Int) (hm : m < 2 ^ 60) (hp : p ≤ 100) : rung m p < double.infRung := by
  unfold rung
  split
  · decide
  · rename_i h0
    have hL : m.log2 < 60 := (Nat.log2_lt h0).2 hm
    dsimp only
    rw [lp, fb, bn, ir]
    obtain ⟨last, hlast⟩ : ∃ last : Int, max (p + (m.log2 : Int) - (52 : Nat)) (-1074) = last := ⟨_, rfl⟩
    rw [hlast]
    have hk : Toward.even.cut false (m <<< (p - last).toNat) (last - p).toNat ≤ 2 ^ 53 := by
      refine cut_le' _ _ ?_
      rw [Nat.shiftLeft_eq]
      by_cases hc : last ≤ p
      · have e1 : (last - p).toNat = 0 := by omega
        rw [e1, Nat.pow_zero, Nat.mul_one]
        have h1 : m < 2 ^ (m.log2 + 1) := Nat.lt_log2_self
        have h2 : m * 2 ^ (p - last).toNat < 2 ^ (m.log2 + 1) * 2 ^ (p - last).toNat := Nat.mul_lt_mul_of_pos_right h1 (Nat.two_pow_pos _)
        rw [← Nat.pow_add] at h2
        exact Nat.lt_of_lt_of_le h2 (Nat.pow_le_pow_right (by omega) (by omega))
      · have e1 : (p - last).toNat = 0 := by omega
        rw [e1, Nat.pow_zero, Nat.mul_one, ← Nat.pow_add]
        exact Nat.lt_of_lt_of_le Nat.lt_log2_self (Nat.pow_le_pow_right (by omega) (by omega))
    generalize Toward.even.cut false (m <<< (p - last).toNat) (last - p).toNat = z at *
    have h3 : (last - -1074).toNat ≤ 1182 := by omega
    have : (last - -1074).toNat * 2 ^ 52 ≤ 1182 * 2 ^ 52 := Nat.mul_le_mul_right _ h3
    refine Nat.lt_of_le_of_lt (Nat.min_le_left _ _) ?_
    omega
/-- The quotient. -/
def fdiv (x y : Nat) : Nat := (double.div x y).getD 0
theorem fdiv_num (x y : Nat) (s t : Bool) (m n : Nat) (i j : Int) (hx : double.read x = .number s m i) (hy : double.read y = .number t n j) (hn : n ≠ 0) (hm : m < 2 ^ 53) (hi : i ≤ 0) (hj : -60 ≤ j) :
    double.div x y = some (fdiv x y) ∧ isNum (double.read (fdiv x y)) ∧ fdiv x y < 2 ^ 64 := by
  have e : double.div x y = some (double.write (.number (s ^^ t) (2 * ((m <<< (54 + n.log2 - m.log2)) / n) + ((m <<< (54 + n.log2 - m.log2)) % n != 0).toNat) (i - j - ((54 + n.log2 - m.log2 : Nat) : Int) - 1))) := by
    unfold Format.div
    rw [hx, hy]
    simp only [Datum.quotient, if_neg hn, Option.map_some]
    rfl
  have e2 : fdiv x y = double.write (.number (s ^^ t) (2 * ((m <<< (54 + n.log2 - m.log2)) / n) + ((m <<< (54 + n.log2 - m.log2)) % n != 0).toNat) (i - j - ((54 + n.log2 - m.log2 : Nat) : Int) - 1)) := by
    unfold fdiv; rw [e]; rfl
  refine ⟨by rw [e2]; exact e, ?_, by rw [e2]; exact double.write_lt _⟩
  rw [e2]
  show isNum (double.read (double.nearest _ _ _))
  rw [nearest_rung, read_word _ _ (rung_le _ _)]
  have hq : (m <<< (54 + n.log2 - m.log2)) / n < 2 ^ 56 := by
    rw [Nat.shiftLeft_eq, Nat.div_lt_iff_lt_mul (by omega)]
    by_cases h0 : m = 0
    · subst h0
      rw [Nat.zero_mul]
      exact Nat.mul_pos (by decide) (by omega)
    · have hL : m.log2 < 53 := (Nat.log2_lt h0).2 hm
      have h1 := (Nat.log2_eq_iff hn).1 rfl
      have h2 : m * 2 ^ (54 + n.log2 - m.log2) < 2 ^ (m.log2 + 1) * 2 ^ (54 + n.log2 - m.log2) := Nat.mul_lt_mul_of_pos_right Nat.lt_log2_self (Nat.two_pow_pos _)
      rw [← Nat.pow_add, show m.log2 + 1 + (54 + n.log2 - m.log2) = 55 + n.log2 by omega, Nat.pow_add] at h2
      have h3 : 2 ^ 55 * 2 ^ n.log2 ≤ 2 ^ 56 * n := Nat.mul_le_mul (by decide) h1.1
      omega
  have hmag : 2 * ((m <<< (54 + n.log2 - m.log2)) / n) + ((m <<< (54 + n.log2 - m.log2)) % n != 0).toNat < 2 ^ 60 := by
    generalize ((m <<< (54 + n.log2 - m.log2)) % n != 0) = b
    cases b <;> simp [Bool.toNat] <;> omega
  have hr := rung_fin _ (i - j - ((54 + n.log2 - m.log2 : Nat) : Int) - 1) hmag (by omega)
  split
  · trivial
  · trivial
end Go.Proofs.YtcpnmpemgkbanaaGreatDoor
