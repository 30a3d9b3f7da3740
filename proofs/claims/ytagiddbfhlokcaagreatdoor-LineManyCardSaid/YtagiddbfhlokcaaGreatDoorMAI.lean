/- Several texts of this proof, laid together. Conditions: as each says. -/
import Derived.Test.YtagiddbfhlokcaaGreatDoorMAH
import Derived.Test.YtagiddbfhlokcaaGreatDoorMAA
/- The short way of ParseFloat is right: products and quotients of exact floats. Conditions: the table of the 23 powers. -/
namespace PF
open Ieee
set_option exponentiation.threshold 3000
theorem read_rung (neg : Bool) {r : Nat} (hr : r < 9218868437227405312) : ∃ m i, double.read (sgn neg + r) = .number neg m i ∧ (m : Rat) * (2 : Rat) ^ (i + 1074) = ((magR r : Nat) : Rat) := by
  have hs : double.signWeight = 9223372036854775808 := rfl
  have hb : double.binade = 4503599627370496 := rfl
  have hi : double.infRung = 9218868437227405312 := rfl
  have hl : double.leastPlace = -1074 := by decide
  have e1 : (sgn neg + r) / 9223372036854775808 % 2 = neg.toNat := by
    cases neg
    · show (0 + r) / 9223372036854775808 % 2 = 0
      omega
    · show (9223372036854775808 + r) / 9223372036854775808 % 2 = 1
      omega
  have e2 : (sgn neg + r) % 9223372036854775808 = r := by
    cases neg
    · show (0 + r) % 9223372036854775808 = r
      omega
    · show (9223372036854775808 + r) % 9223372036854775808 = r
      omega
  have e3 : (neg.toNat == 1) = neg := by cases neg <;> rfl
  unfold Format.read
  simp only [hs, hb, hi, hl, e1, e2, e3]
  by_cases h : r < 4503599627370496
  · rw [if_pos h]
    refine ⟨r, -1074, rfl, ?_⟩
    unfold magR
    rw [if_pos h]
    rw [show (-1074 : Int) + 1074 = 0 by omega, Rat.zpow_zero, Rat.mul_one]
  · rw [if_neg h, if_pos hr]
    refine ⟨_, _, rfl, ?_⟩
    unfold magR
    rw [if_neg h, Rat.natCast_mul, cast2]
    congr 2
    omega
theorem near_exact {V : Rat} {r : Nat} (h : V = 2 * ((magR r : Nat) : Rat)) : Near V r := by
  have up : magR r + magR r < midR r := by unfold midR; have := magR_lt r; omega
  have upr := castlt up
  rw [Rat.natCast_add] at upr
  have dn : 0 < r → midR (r - 1) < magR r + magR r := fun h0 => by
    unfold midR
    have := magR_lt (r - 1)
    rw [show r - 1 + 1 = r by omega] at this ⊢
    omega
  refine ⟨fun h0 => ?_, fun h0 _ => ?_, ?_, fun _ => ?_⟩
  · have := castlt (dn h0); rw [Rat.natCast_add] at this; grind
  · have := castlt (dn h0); rw [Rat.natCast_add] at this; grind
  · grind
  · grind
theorem Near.le_of {V : Rat} {r R : Nat} (h : Near V r) (hV : V < ((midR R : Nat) : Rat)) : r ≤ R := by
  refine Nat.le_of_not_lt fun hc => ?_
  have a := h.lo (by omega)
  have b : midR R ≤ midR (r - 1) := by
    by_cases e : R = r - 1
    · rw [e]; exact Nat.le_refl _
    · exact Nat.le_of_lt (midR_mono (by omega))
  have := castle b
  grind
theorem magR_mono {r r' : Nat} (h : r < r') : magR r < magR r' := by
  obtain ⟨d, rfl⟩ : ∃ d, r' = r + 1 + d := ⟨r' - (r + 1), by omega⟩
  clear h
  induction d with
  | zero => exact magR_lt r
  | succ d ih => exact Nat.lt_trans ih (magR_lt _)
/-- A whole number of few bits is a float. -/
theorem int_rung {I : Nat} (h0 : 0 < I) (h : I < 9007199254740992) : ∃ r, magR r = I * 2 ^ 1074 ∧ r < 9218868437227405312 := by
  obtain ⟨L, hL⟩ : ∃ L, I.log2 = L := ⟨_, rfl⟩
  have h1 : 2 ^ L ≤ I := by rw [← hL]; exact Nat.log2_self_le (by omega)
  have h2 : I < 2 ^ (L + 1) := by rw [← hL]; exact Nat.lt_log2_self
  have hL52 : L ≤ 52 := by
    refine Nat.le_of_not_lt fun hc => ?_
    have : 2 ^ 53 ≤ 2 ^ L := Nat.pow_le_pow_right (by decide) hc
    omega
  have l1 : 4503599627370496 ≤ I * 2 ^ (52 - L) := by
    calc 4503599627370496 = 2 ^ L * 2 ^ (52 - L) := by rw [← Nat.pow_add, show L + (52 - L) = 52 by omega]
      _ ≤ I * 2 ^ (52 - L) := Nat.mul_le_mul_right _ h1
  have l2 : I * 2 ^ (52 - L) < 9007199254740992 := by
    calc I * 2 ^ (52 - L) < 2 ^ (L + 1) * 2 ^ (52 - L) := Nat.mul_lt_mul_of_pos_right h2 (Nat.two_pow_pos _)
      _ = 9007199254740992 := by rw [← Nat.pow_add, show L + 1 + (52 - L) = 53 by omega]
  refine ⟨(L + 1022) * 4503599627370496 + I * 2 ^ (52 - L), ?_, by omega⟩
  rw [magR_form (.inr l1) (by omega), Nat.mul_assoc, ← Nat.pow_add, show 52 - L + (L + 1022) = 1074 by omega]
theorem int_cast {I r : Nat} (h : magR r = I * 2 ^ 1074) : 2 * ((magR r : Nat) : Rat) = (I : Rat) * (2 : Rat) ^ (1075 : Int) := by
  rw [h, Rat.natCast_mul, cast2, show (1075 : Int) = ((1074 : Nat) : Int) + 1 by rfl, half2]
  generalize (2 : Rat) ^ ((1074 : Nat) : Int) = x
  grind
theorem flt_rung {man r : Nat} (h0 : 0 < man) (hr : magR r = man * 2 ^ 1074) (hr2 : r < 9218868437227405312) (neg : Bool) : flt man neg = sgn neg + r := by
  have := nearest_gen (place := 0) (V := (man : Rat) * (2 : Rat) ^ (1075 : Int)) h0 (.inl rfl) (by rw [Int.zero_add]) (near_exact (r := r) (int_cast hr).symm) hr2 false
  unfold flt
  rw [ofInt_eq, this]
  show 0 + r + sgn neg = _
  omega
theorem mul_ex {a b : Nat} {V : Rat} (neg : Bool) (ha : a < 9218868437227405312) (hb : b < 9218868437227405312) (ha0 : 0 < magR a) (hb0 : 0 < magR b) (hV : V * (2 : Rat) ^ (1073 : Int) = ((magR a : Nat) : Rat) * ((magR b : Nat) : Rat)) : ∃ r, Near V r ∧ mulF (sgn neg + a) b = sgn neg + min r 9218868437227405312 := by
  obtain ⟨m, i, e1, e2⟩ := read_rung neg ha
  obtain ⟨n, j, e3, e4⟩ := read_rung false hb
  rw [show sgn false + b = b from Nat.zero_add b] at e3
  have hm : 0 < m := by
    rcases Nat.eq_zero_or_pos m with h | h
    · subst h
      rw [show ((0 : Nat) : Rat) = 0 from rfl, Rat.zero_mul] at e2
      have := Rat.natCast_inj.1 (show ((0 : Nat) : Rat) = ((magR a : Nat) : Rat) from e2)
      omega
    · exact h
  have hn : 0 < n := by
    rcases Nat.eq_zero_or_pos n with h | h
    · subst h
      rw [show ((0 : Nat) : Rat) = 0 from rfl, Rat.zero_mul] at e4
      have := Rat.natCast_inj.1 (show ((0 : Nat) : Rat) = ((magR b : Nat) : Rat) from e4)
      omega
    · exact h
  have hV2 : V = ((m * n : Nat) : Rat) * (2 : Rat) ^ (i + j + 1075) := by
    have hp := p2 1073
    have : V * (2 : Rat) ^ (1073 : Int) = ((m * n : Nat) : Rat) * (2 : Rat) ^ (i + j + 1075) * (2 : Rat) ^ (1073 : Int) := by
      rw [hV, ← e2, ← e4, Rat.natCast_mul, Rat.mul_assoc _ _ ((2 : Rat) ^ (1073 : Int)), ← Rat.zpow_add r2, show i + j + 1075 + 1073 = (i + 1074) + (j + 1074) by omega, Rat.zpow_add r2 (i + 1074) (j + 1074)]
      generalize (2 : Rat) ^ (i + 1074) = x
      generalize (2 : Rat) ^ (j + 1074) = y
      grind
    exact Rat.le_antisymm (Rat.le_of_mul_le_mul_right (by rw [this]; exact Rat.le_refl) hp) (Rat.le_of_mul_le_mul_right (by rw [this]; exact Rat.le_refl) hp)
  obtain ⟨r, h1, h2⟩ := nearest_ex (place := i + j) (Nat.mul_pos hm hn) (.inl rfl) hV2 neg
  refine ⟨r, h1, ?_⟩
  unfold mulF Format.mul
  rw [e1, e3]
  show (some (double.write (.number (neg ^^ false) (m * n) (i + j)))).getD 0 = _
  rw [Bool.xor_false]
  exact h2
theorem mul_near {a b r0 : Nat} {V : Rat} (neg : Bool) (ha : a < 9218868437227405312) (hb : b < 9218868437227405312) (ha0 : 0 < magR a) (hb0 : 0 < magR b) (hV : V * (2 : Rat) ^ (1073 : Int) = ((magR a : Nat) : Rat) * ((magR b : Nat) : Rat)) (h : Near V r0) (hr : r0 < 9218868437227405312) : mulF (sgn neg + a) b = sgn neg + r0 := by
  obtain ⟨r, h1, h2⟩ := mul_ex neg ha hb ha0 hb0 hV
  have := h1.unique h
  subst this
  rw [h2, Nat.min_eq_left (Nat.le_of_lt hr)]
theorem div_near {a b r0 : Nat} {V : Rat} (neg : Bool) (ha : a < 9218868437227405312) (hb : b < 9218868437227405312) (ha0 : 0 < magR a) (hb0 : 0 < magR b) (hV : V * ((magR b : Nat) : Rat) = ((magR a : Nat) : Rat) * (2 : Rat) ^ (1075 : Int)) (h : Near V r0) (hr : r0 < 9218868437227405312) : divF (sgn neg + a) b = sgn neg + r0 := by
  obtain ⟨m, i, e1, e2⟩ := read_rung neg ha
  obtain ⟨n, j, e3, e4⟩ := read_rung false hb
  rw [show sgn false + b = b from Nat.zero_add b] at e3
  have hm : 0 < m := by
    rcases Nat.eq_zero_or_pos m with h | h
    · subst h
      rw [show ((0 : Nat) : Rat) = 0 from rfl, Rat.zero_mul] at e2
      have := Rat.natCast_inj.1 (show ((0 : Nat) : Rat) = ((magR a : Nat) : Rat) from e2)
      omega
    · exact h
  have hn : 0 < n := by
    rcases Nat.eq_zero_or_pos n with h | h
    · subst h
      rw [show ((0 : Nat) : Rat) = 0 from rfl, Rat.zero_mul] at e4
      have := Rat.natCast_inj.1 (show ((0 : Nat) : Rat) = ((magR b : Nat) : Rat) from e4)
      omega
    · exact h
  obtain ⟨more, hmore⟩ : ∃ k, 54 + n.log2 - m.log2 = k := ⟨_, rfl⟩
  obtain ⟨D, hD⟩ : ∃ D, m * 2 ^ more = D := ⟨_, rfl⟩
  obtain ⟨Q, hQ⟩ : ∃ Q, D / n = Q := ⟨_, rfl⟩
  obtain ⟨R, hR⟩ : ∃ R, D % n = R := ⟨_, rfl⟩
  have hDQ : D = n * Q + R := by rw [← hQ, ← hR]; exact (Nat.div_add_mod _ _).symm
  have hRn : R < n := by rw [← hR]; exact Nat.mod_lt _ hn
  have hQ1 : 9007199254740992 ≤ Q := by
    rw [← hQ]
    refine (Nat.le_div_iff_mul_le hn).2 ?_
    have l1 : 2 ^ m.log2 ≤ m := Nat.log2_self_le (by omega)
    have l2 : n < 2 ^ (n.log2 + 1) := Nat.lt_log2_self
    calc 9007199254740992 * n ≤ 2 ^ 53 * 2 ^ (n.log2 + 1) := Nat.mul_le_mul (by decide) (Nat.le_of_lt l2)
      _ = 2 ^ (53 + (n.log2 + 1)) := (Nat.pow_add _ _ _).symm
      _ ≤ 2 ^ (m.log2 + more) := Nat.pow_le_pow_right (by decide) (by omega)
      _ = 2 ^ m.log2 * 2 ^ more := Nat.pow_add _ _ _
      _ ≤ m * 2 ^ more := Nat.mul_le_mul_right _ l1
      _ = D := hD
  have hnr : (0 : Rat) < (n : Rat) := Rat.natCast_pos.2 hn
  -- twice the quotient
  obtain ⟨tm, htm⟩ : ∃ tm : Rat, tm * (n : Rat) = 2 * (D : Rat) := ⟨2 * (D : Rat) / (n : Rat), Rat.div_mul_cancel (by grind)⟩
  have hbes : Beside tm (2 * Q + (R != 0).toNat) := by
    have hDr : (D : Rat) = (n : Rat) * (Q : Rat) + (R : Rat) := by rw [hDQ, Rat.natCast_add, Rat.natCast_mul]
    by_cases h0 : R = 0
    · left
      subst h0
      have t : ((0 : Nat) : Rat) = 0 := rfl
      rw [t] at hDr
      have b : ((0 : Nat) != 0).toNat = 0 := rfl
      rw [b, Nat.add_zero, casttw]
      have e : tm * (n : Rat) = 2 * (Q : Rat) * (n : Rat) := by rw [htm, hDr]; grind
      exact Rat.le_antisymm (Rat.le_of_mul_le_mul_right (by rw [e]; exact Rat.le_refl) hnr) (Rat.le_of_mul_le_mul_right (by rw [e]; exact Rat.le_refl) hnr)
    · right
      have b : (R != 0).toNat = 1 := by rw [bne_iff_ne.2 h0]; rfl
      rw [b]
      have r1 : (0 : Rat) < (R : Rat) := Rat.natCast_pos.2 (by omega)
      have r2 := castlt hRn
      refine ⟨Q, rfl, hQ1, ?_, ?_⟩
      · refine Rat.lt_of_mul_lt_mul_right (c := (n : Rat)) ?_ (Rat.le_of_lt hnr)
        rw [htm, hDr]
        grind
      · refine Rat.lt_of_mul_lt_mul_right (c := (n : Rat)) ?_ (Rat.le_of_lt hnr)
        rw [htm, hDr]
        grind
  have hV2 : V = tm * (2 : Rat) ^ ((i - j - (more : Int) - 1) + 1075) := by
    have hbp : (0 : Rat) < ((magR b : Nat) : Rat) := Rat.natCast_pos.2 hb0
    have : V * ((magR b : Nat) : Rat) = tm * (2 : Rat) ^ ((i - j - (more : Int) - 1) + 1075) * ((magR b : Nat) : Rat) := by
      rw [hV, ← e2, ← e4]
      have e5 : tm * (2 : Rat) ^ ((i - j - (more : Int) - 1) + 1075) * ((n : Rat) * (2 : Rat) ^ (j + 1074)) = tm * (n : Rat) * ((2 : Rat) ^ ((i - j - (more : Int) - 1) + 1075) * (2 : Rat) ^ (j + 1074)) := by
        generalize (2 : Rat) ^ ((i - j - (more : Int) - 1) + 1075) = x
        generalize (2 : Rat) ^ (j + 1074) = y
        grind
      rw [e5, htm, ← Rat.zpow_add r2, ← hD, Rat.natCast_mul, cast2, Rat.mul_assoc, ← Rat.zpow_add r2, show (i + 1074) + 1075 = ((more : Int) + ((i - j - (more : Int) - 1 + 1075) + (j + 1074))) + 1 by omega, half2, Rat.zpow_add r2 (more : Int)]
      generalize (2 : Rat) ^ (more : Int) = x
      generalize (2 : Rat) ^ ((i - j - (more : Int) - 1 + 1075) + (j + 1074)) = y
      grind
    exact Rat.le_antisymm (Rat.le_of_mul_le_mul_right (by rw [this]; exact Rat.le_refl) hbp) (Rat.le_of_mul_le_mul_right (by rw [this]; exact Rat.le_refl) hbp)
  have := nearest_gen (by omega) hbes hV2 h hr neg
  unfold divF Format.div
  rw [e1, e3]
  unfold Datum.quotient
  simp only
  have hf : double.fractionBits = 52 := rfl
  rw [if_neg (by omega), hf, hmore, Nat.shiftLeft_eq, hD, hQ, hR, Bool.xor_false]
  exact this
/-- How two floats of one sign stand to each other. -/
theorem order_le (s : Bool) {a b : Nat} (ha : a < 9218868437227405312) (hb : b < 9218868437227405312) (h : (if s then ltF (sgn s + a) (sgn s + b) else gtF (sgn s + a) (sgn s + b)) = false) : magR a ≤ magR b := by
  obtain ⟨m, i, e1, e2⟩ := read_rung s ha
  obtain ⟨n, j, e3, e4⟩ := read_rung s hb
  have key : m * 2 ^ (i - min i j).toNat ≤ n * 2 ^ (j - min i j).toNat → magR a ≤ magR b := by
    intro hk
    obtain ⟨c, hc⟩ : ∃ c, min i j = c := ⟨_, rfl⟩
    rw [hc] at hk
    have hr := castle hk
    rw [Rat.natCast_mul, Rat.natCast_mul, cast2, cast2, show ((i - c).toNat : Int) = (i + 1074) + (-c - 1074) by omega, show ((j - c).toNat : Int) = (j + 1074) + (-c - 1074) by omega, Rat.zpow_add r2 (i + 1074), Rat.zpow_add r2 (j + 1074), ← Rat.mul_assoc, ← Rat.mul_assoc, e2, e4] at hr
    exact Rat.natCast_le_natCast.1 (Rat.le_of_mul_le_mul_right hr (p2 _))
  refine key ?_
  cases s with
  | true =>
    simp only [if_true] at h
    unfold ltF Format.order at h
    rw [e1, e3] at h
    unfold Datum.order signed at h
    simp only [if_true, Nat.shiftLeft_eq] at h
    refine Nat.le_of_not_lt fun hc => ?_
    have h2 : compare (-((m * 2 ^ (i - min i j).toNat : Nat) : Int)) (-((n * 2 ^ (j - min i j).toNat : Nat) : Int)) = .lt := by
      show compareOfLessAndEq _ _ = _
      unfold compareOfLessAndEq
      rw [if_pos (by omega)]
    rw [h2] at h
    cases h
  | false =>
    simp only [Bool.false_eq_true, if_false] at h
    unfold gtF Format.order at h
    rw [e1, e3] at h
    unfold Datum.order signed at h
    simp only [Bool.false_eq_true, if_false, Nat.shiftLeft_eq] at h
    refine Nat.le_of_not_lt fun hc => ?_
    have h2 : compare ((m * 2 ^ (i - min i j).toNat : Nat) : Int) ((n * 2 ^ (j - min i j).toNat : Nat) : Int) = .gt := by
      show compareOfLessAndEq _ _ = _
      unfold compareOfLessAndEq
      rw [if_neg (by omega), if_neg (by omega)]
    rw [h2] at h
    cases h
/-- The table of the 23 powers of ten holds just these. -/
def TabTen (F : Nat → Nat) : Prop := ∀ k, k ≤ 22 → F k < 9218868437227405312 ∧ magR (F k) = 10 ^ k * 2 ^ 1074
theorem ten_pos (k : Nat) : 0 < 10 ^ k * 2 ^ 1074 := Nat.mul_pos (Nat.pow_pos (by decide)) (Nat.two_pow_pos _)
theorem mul_V {a b I k : Nat} (ha : magR a = I * 2 ^ 1074) (hb : magR b = 10 ^ k * 2 ^ 1074) : ((I : Rat) * (10 : Rat) ^ (k : Int) * (2 : Rat) ^ (1075 : Int)) * (2 : Rat) ^ (1073 : Int) = ((magR a : Nat) : Rat) * ((magR b : Nat) : Rat) := by
  rw [ha, hb, Rat.natCast_mul, Rat.natCast_mul, cast10, cast2]
  have : (2 : Rat) ^ (1075 : Int) * (2 : Rat) ^ (1073 : Int) = (2 : Rat) ^ ((1074 : Nat) : Int) * (2 : Rat) ^ ((1074 : Nat) : Int) := by
    rw [← Rat.zpow_add r2, ← Rat.zpow_add r2]; rfl
  generalize (2 : Rat) ^ (1075 : Int) = x at *
  generalize (2 : Rat) ^ (1073 : Int) = y at *
  generalize (2 : Rat) ^ ((1074 : Nat) : Int) = z at *
  generalize (10 : Rat) ^ (k : Int) = t at *
  grind
theorem mag15 : magR e15 = 1000000000000000 * 2 ^ 1074 ∧ e15 < 9218868437227405312 ∧ midR e15 = 16000000000000001 * 2 ^ 1071 := by decide +kernel
/-- THE SHORT WAY: it gives the float that is nearest. -/
theorem exact_near {F : Nat → Nat} (hF : TabTen F) {man r0 f : Nat} {p : Int} (hm : 0 < man) (h : Near ((man : Rat) * (10 : Rat) ^ p * (2 : Rat) ^ (1075 : Int)) r0) (hr : r0 < 9218868437227405312) (neg : Bool) (hf : exact64 F man p neg = some f) : f = sgn neg + r0 := by
  unfold exact64 at hf
  split at hf
  · cases hf
  · rename_i hman
    have hman2 : man < 4503599627370496 := by omega
    obtain ⟨ra, a1, a2⟩ := int_rung hm (by omega : man < 9007199254740992)
    have hfl := flt_rung hm a1 a2 neg
    have ha0 : 0 < magR ra := by rw [a1]; exact Nat.mul_pos hm (Nat.two_pow_pos _)
    rw [hfl] at hf
    split at hf
    · rename_i hp
      subst hp
      rw [Rat.zpow_zero, Rat.mul_one] at h
      have := (near_exact (r := ra) (int_cast a1).symm).unique h
      cases hf
      rw [this]
    · split at hf
      · rename_i hp0 hp
        obtain ⟨q, hq⟩ : ∃ q : Nat, p = q := ⟨p.toNat, by omega⟩
        subst hq
        rw [Int.toNat_natCast] at hf
        unfold exU at hf
        by_cases hq2 : 22 < q
        · simp only [hq2, if_true] at hf
          rw [Nat.min_eq_right (by omega : 22 ≤ q)] at hf
          obtain ⟨b1, b2⟩ := hF (q - 22) (by omega)
          obtain ⟨c1, c2⟩ := hF 22 (Nat.le_refl _)
          obtain ⟨rg, g1, g2⟩ := mul_ex neg a2 b1 ha0 (by rw [b2]; exact ten_pos _) (mul_V a1 b2)
          have I1 : (man : Rat) * (10 : Rat) ^ ((q - 22 : Nat) : Int) = ((man * 10 ^ (q - 22) : Nat) : Rat) := by rw [Rat.natCast_mul, cast10]
          rw [I1] at g1
          obtain ⟨I, hI⟩ : ∃ I, man * 10 ^ (q - 22) = I := ⟨_, rfl⟩
          rw [hI] at g1
          have hI0 : 0 < I := by rw [← hI]; exact Nat.mul_pos hm (Nat.pow_pos (by decide))
          -- what is not too great is exact
          have hle : ∀ R : Nat, R < 9218868437227405312 → magR R ≤ magR e15 → Near ((I : Rat) * (2 : Rat) ^ (1075 : Int)) R → magR R = I * 2 ^ 1074 := by
            intro R hR hRe hN
            have hRe2 : R ≤ e15 := Nat.le_of_not_lt fun hc => by have := magR_mono hc; omega
            have hmid : midR R ≤ midR e15 := by
              rcases Nat.lt_or_ge R e15 with hc | hc
              · exact Nat.le_of_lt (midR_mono hc)
              · rw [Nat.le_antisymm hRe2 hc]; exact Nat.le_refl _
            rw [mag15.2.2] at hmid
            have l1 := Rat.le_trans hN.hi (castle hmid)
            have l2 : ((16 * I : Nat) : Rat) * (2 : Rat) ^ ((1071 : Nat) : Int) ≤ ((16000000000000001 : Nat) : Rat) * (2 : Rat) ^ ((1071 : Nat) : Int) := by
              rw [← cast2 1071, ← Rat.natCast_mul 16000000000000001]
              refine Rat.le_trans ?_ l1
              rw [cast2, show (1075 : Int) = ((1071 : Nat) : Int) + 4 by rfl, Rat.zpow_add r2, Rat.natCast_mul]
              have t : (2 : Rat) ^ (4 : Int) = 16 := by decide +kernel
              have t2 : ((16 : Nat) : Rat) = 16 := rfl
              rw [t, t2]
              generalize (2 : Rat) ^ ((1071 : Nat) : Int) = x
              grind
            have l3 := Rat.natCast_le_natCast.1 (Rat.le_of_mul_le_mul_right l2 (p2 _))
            obtain ⟨rI, i1, i2⟩ := int_rung hI0 (by omega : I < 9007199254740992)
            have := hN.unique (near_exact (r := rI) (int_cast i1).symm)
            rw [this]
            exact i1
          have hrg : rg < 9218868437227405312 := by
            have hb9 : rg ≤ 2000 * 4503599627370496 := by
              refine g1.le_of ?_
              have hI2 : I < 4503599627370496 * 10 ^ 15 := by
                rw [← hI]
                calc man * 10 ^ (q - 22) ≤ man * 10 ^ 15 := Nat.mul_le_mul_left _ (Nat.pow_le_pow_right (by decide) (by omega))
                  _ < 4503599627370496 * 10 ^ 15 := (Nat.mul_lt_mul_right (by decide)).2 hman2
              have e : (I : Rat) * (2 : Rat) ^ (1075 : Int) = ((I * 2 ^ 1075 : Nat) : Rat) := by rw [Rat.natCast_mul, cast2]; rfl
              rw [e]
              refine castlt ?_
              have b9 : 4503599627370496 * 10 ^ 15 * 2 ^ 1075 < midR (2000 * 4503599627370496) := by decide +kernel
              refine Nat.lt_trans ((Nat.mul_lt_mul_right (Nat.two_pow_pos _)).2 hI2) b9
            omega
          rw [Nat.min_eq_left (Nat.le_of_lt hrg)] at g2
          rw [g2] at hf
          split at hf
          · cases hf
          · rename_i hgt
            rw [Bool.or_eq_true, not_or, Bool.not_eq_true, Bool.not_eq_true] at hgt
            have hmle : magR rg ≤ magR e15 := by
              refine order_le neg hrg mag15.2.1 ?_
              cases neg with
              | true => simp only [if_true]; exact hgt.2
              | false => simp only [Bool.false_eq_true, if_false]; rw [show sgn false + e15 = e15 from Nat.zero_add _]; exact hgt.1
            have hex := hle rg hrg hmle g1
            cases hf
            refine mul_near neg hrg c1 (by rw [hex]; exact Nat.mul_pos hI0 (Nat.two_pow_pos _)) (by rw [c2]; exact ten_pos _) ?_ h hr
            have := mul_V hex c2
            rw [← this, ← hI, Rat.natCast_mul, cast10, show ((q : Nat) : Int) = ((q - 22 : Nat) : Int) + ((22 : Nat) : Int) by omega, Rat.zpow_add r10]
            generalize (10 : Rat) ^ ((q - 22 : Nat) : Int) = x
            generalize (10 : Rat) ^ ((22 : Nat) : Int) = y
            generalize (2 : Rat) ^ (1075 : Int) = z
            generalize (2 : Rat) ^ (1073 : Int) = t
            grind
        · simp only [hq2, if_false] at hf
          rw [Nat.min_eq_left (by omega : q ≤ 22)] at hf
          obtain ⟨c1, c2⟩ := hF q (by omega)
          split at hf
          · cases hf
          · cases hf
            exact mul_near neg a2 c1 ha0 (by rw [c2]; exact ten_pos _) (mul_V a1 c2) h hr
      · split at hf
        · rename_i hp0 hp1 hp
          obtain ⟨q, hq⟩ : ∃ q : Nat, p = -(q : Int) := ⟨(-p).toNat, by omega⟩
          subst hq
          rw [Int.neg_neg, Int.toNat_natCast] at hf
          obtain ⟨c1, c2⟩ := hF q (by omega)
          cases hf
          refine div_near neg a2 c1 ha0 (by rw [c2]; exact ten_pos _) ?_ h hr
          rw [a1, c2, Rat.natCast_mul, Rat.natCast_mul, cast10]
          have t : (10 : Rat) ^ (-(q : Int)) * (10 : Rat) ^ (q : Int) = 1 := by rw [← Rat.zpow_add r10, Int.add_left_neg, Rat.zpow_zero]
          generalize (10 : Rat) ^ (-(q : Int)) = x at *
          generalize (10 : Rat) ^ (q : Int) = y at *
          generalize ((2 ^ 1074 : Nat) : Rat) = z at *
          generalize (2 : Rat) ^ (1075 : Int) = u at *
          clear h
          grind
        · cases hf
end PF
/- The slow way of ParseFloat, in plain Lean: decimals, shifts, bits. No condition. -/
namespace PF
/-- Digits as a number. -/
def val (ds : List Nat) : Nat := ds.foldl (fun n d => n * 10 + d) 0
/-- A number's digits. -/
def dgs (n : Nat) : List Nat := if n = 0 then [] else dgs (n / 10) ++ [n % 10]
termination_by n
decreasing_by omega
structure Dec where
  ds : List Nat
  dp : Int
  tr : Bool
def trimL (ds : List Nat) : List Nat := (ds.reverse.dropWhile (· == 0)).reverse
def Dec.trim (a : Dec) : Dec := ⟨trimL a.ds, (if trimL a.ds = [] then 0 else a.dp), a.tr⟩
/-- The first digits of a shift to the right: what is left of them, the number, how many were read. -/
def rsz (k : Nat) : Nat → Nat → Nat → Nat × Nat
  | 0, n, r => (n, r)
  | f + 1, n, r => if n / 2 ^ k = 0 then rsz k f (n * 10) (r + 1) else (n, r)
def rs1 (k : Nat) : List Nat → Nat → Nat → List Nat × Nat × Nat
  | [], n, r => ([], (rsz k (k + 1) n r).1, (rsz k (k + 1) n r).2)
  | d :: t, n, r => if n / 2 ^ k = 0 then rs1 k t (n * 10 + d) (r + 1) else (d :: t, n, r)
/-- A digit up, a digit down. -/
def rs2 (k : Nat) : List Nat → Nat → List Nat × Nat
  | [], n => ([], n)
  | c :: t, n => (n / 2 ^ k :: (rs2 k t (n % 2 ^ k * 10 + c)).1, (rs2 k t (n % 2 ^ k * 10 + c)).2)
/-- What is left; w digits are there. -/
def rs3 (k : Nat) : Nat → Nat → Nat → List Nat × Bool
  | 0, _, _ => ([], false)
  | f + 1, n, w => if n = 0 then ([], false) else if w < 800 then (n / 2 ^ k :: (rs3 k f (n % 2 ^ k * 10) (w + 1)).1, (rs3 k f (n % 2 ^ k * 10) (w + 1)).2) else ((rs3 k f (n % 2 ^ k * 10) w).1, decide (0 < n / 2 ^ k) || (rs3 k f (n % 2 ^ k * 10) w).2)
/-- A shift to the right by at most 60. -/
def Dec.rsh (a : Dec) (k : Nat) : Dec :=
  let p := rs1 k a.ds 0 0
  let q := rs2 k p.1 p.2.1
  let t := rs3 k (k + 2) q.2 q.1.length
  Dec.trim ⟨q.1 ++ t.1, a.dp - ((p.2.2 : Int) - 1), a.tr || t.2⟩
/-- A shift to the left by at most 60. -/
def Dec.lsh (a : Dec) (k : Nat) : Dec :=
  let l := dgs (val a.ds * 2 ^ k)
  Dec.trim ⟨l.take 800, a.dp + ((l.length : Int) - a.ds.length), a.tr || (l.drop 800).any (· ≠ 0)⟩
/-- A shift to the right by any number. -/
def Dec.rshN (a : Dec) (k : Nat) : Dec := if 60 < k then (a.rsh 60).rshN (k - 60) else a.rsh k
termination_by k
def powtab (i : Nat) : Nat := match i with | 0 => 1 | 1 => 3 | 2 => 6 | 3 => 9 | 4 => 13 | 5 => 16 | 6 => 19 | 7 => 23 | 8 => 26 | _ => 27
def d0 (a : Dec) : Nat := a.ds.headD 0
/-- Down to below one. -/
def fb1 : Nat → Dec → Int → Dec × Int
  | 0, a, e => (a, e)
  | f + 1, a, e => if 0 < a.dp then fb1 f (a.rsh (powtab a.dp.toNat)) (e + powtab a.dp.toNat) else (a, e)
/-- Up to a half at least. -/
def fb2 : Nat → Dec → Int → Dec × Int
  | 0, a, e => (a, e)
  | f + 1, a, e => if a.dp < 0 ∨ (a.dp = 0 ∧ d0 a < 5) then fb2 f (a.lsh (powtab (-a.dp).toNat)) (e - powtab (-a.dp).toNat) else (a, e)
/-- Is to be rounded up, cut at n digits. -/
def upB (a : Dec) (n : Int) : Bool :=
  if n < 0 ∨ (a.ds.length : Int) ≤ n then false
  else
    let i := n.toNat
    if a.ds.getD i 0 = 5 ∧ i + 1 = a.ds.length then a.tr || (decide (0 < i) && decide (a.ds.getD (i - 1) 0 % 2 ≠ 0))
    else decide (5 ≤ a.ds.getD i 0)
/-- The whole part, rounded; modulo 2^64. -/
def rint (a : Dec) : Nat :=
  if 20 < a.dp then 2 ^ 64 - 1
  else ((val (a.ds.take a.dp.toNat) * 10 ^ (a.dp.toNat - a.ds.length)) % 2 ^ 64 + (upB a a.dp).toNat) % 2 ^ 64
/-- The bits of a decimal, and whether it is too great. -/
def fbits (neg : Bool) (a : Dec) : Nat × Bool :=
  let s := if neg then 2 ^ 63 else 0
  if a.ds = [] then (s, false)
  else if 310 < a.dp then (2047 * 2 ^ 52 + s, true)
  else if a.dp < -330 then (s, false)
  else
    let p := fb1 5000 a 0
    let q := fb2 5000 p.1 p.2
    let e := q.2 - 1
    let b := if e < -1022 then (q.1.rshN (-1022 - e).toNat, (-1022 : Int)) else (q.1, e)
    if 2047 ≤ b.2 + 1023 then (2047 * 2 ^ 52 + s, true)
    else
      let m := rint (b.1.lsh 53)
      let c := if m = 2 ^ 53 then (2 ^ 52, b.2 + 1) else (m, b.2)
      if m = 2 ^ 53 ∧ 2047 ≤ b.2 + 1 + 1023 then (2047 * 2 ^ 52 + s, true)
      else
        let ex := if c.1 / 2 ^ 52 % 2 = 0 then -1023 else c.2
        (c.1 % 2 ^ 52 + ((ex + 1023).toNat % 2048) * 2 ^ 52 + s, false)
end PF
/- The slow way's shift to the left: how many digits it brings. No condition. -/
namespace PF
theorem val_foldl (ds : List Nat) (n : Nat) : ds.foldl (fun n d => n * 10 + d) n = n * 10 ^ ds.length + val ds := by
  induction ds generalizing n with
  | nil => simp [val]
  | cons d t ih =>
    simp only [List.foldl_cons, List.length_cons, val]
    rw [ih, ih (0 * 10 + d), Nat.pow_succ]
    simp only [Nat.zero_mul, Nat.zero_add, Nat.add_mul]
    have : n * 10 * 10 ^ t.length = n * (10 ^ t.length * 10) := by rw [Nat.mul_assoc, Nat.mul_comm 10]
    omega
theorem val_cons (d : Nat) (t : List Nat) : val (d :: t) = d * 10 ^ t.length + val t := by
  have := val_foldl t d
  unfold val at *
  simp only [List.foldl_cons, Nat.zero_mul, Nat.zero_add]
  exact this
theorem val_append (a b : List Nat) : val (a ++ b) = val a * 10 ^ b.length + val b := by
  have := val_foldl b (val a)
  unfold val at *
  rw [List.foldl_append]
  exact this
theorem val_lt {ds : List Nat} (h : ∀ d ∈ ds, d ≤ 9) : val ds < 10 ^ ds.length := by
  induction ds with
  | nil => simp [val]
  | cons d t ih =>
    have h1 := ih fun x hx => h x (List.mem_cons_of_mem _ hx)
    have h2 := h d (List.mem_cons_self ..)
    rw [val_cons, List.length_cons, Nat.pow_succ]
    have : d * 10 ^ t.length ≤ 9 * 10 ^ t.length := Nat.mul_le_mul_right _ h2
    omega
theorem val_ge {d : Nat} {t : List Nat} (h : d ≠ 0) : 10 ^ t.length ≤ val (d :: t) := by
  rw [val_cons]
  have : 1 * 10 ^ t.length ≤ d * 10 ^ t.length := Nat.mul_le_mul_right _ (by omega)
  omega
/-- Is the first list less, where the second is laid beside it? -/
def plt : List Nat → List Nat → Bool
  | _, [] => false
  | [], _ :: _ => true
  | b :: bs, s :: ss => if b = s then plt bs ss else decide (b < s)
theorem val_pos : ∀ (s : Nat) (ss : List Nat), (s :: ss).getLast? ≠ some 0 → 0 < val (s :: ss)
  | s, [], h => by simp [val] at *; omega
  | s, a :: t, h => by
    have := val_pos a t (by simpa using h)
    rw [val_cons]
    omega
theorem plt_iff : ∀ (b s : List Nat), (∀ d ∈ b, d ≤ 9) → (∀ d ∈ s, d ≤ 9) → (s ≠ [] → s.getLast? ≠ some 0) → (plt b s = true ↔ val b * 10 ^ s.length < val s * 10 ^ b.length)
  | b, [], hb, _, _ => by
    simp [plt, val]
  | [], s :: ss, _, _, hl => by
    simp only [plt, true_iff, List.length_nil, Nat.pow_zero, Nat.mul_one]
    simp only [val, List.foldl_nil, Nat.zero_mul]
    show 0 < val (s :: ss)
    exact val_pos s ss (hl (by simp))
  | b :: bs, s :: ss, hb, hs, hl => by
    have b1 := val_lt fun x hx => hb x (List.mem_cons_of_mem _ hx)
    have s1 := val_lt fun x hx => hs x (List.mem_cons_of_mem _ hx)
    have hB := Nat.two_pow_pos 1
    rw [val_cons, val_cons, List.length_cons, List.length_cons, Nat.pow_succ, Nat.pow_succ]
    have pB : 0 < 10 ^ bs.length := Nat.pow_pos (by omega)
    have pS : 0 < 10 ^ ss.length := Nat.pow_pos (by omega)
    unfold plt
    by_cases e : b = s
    · subst e
      rw [if_pos rfl]
      have hl' : ss ≠ [] → ss.getLast? ≠ some 0 := by
        intro hne
        have := hl (by simp)
        cases ss with
        | nil => exact absurd rfl hne
        | cons a t => simpa using this
      have ih := plt_iff bs ss (fun x hx => hb x (List.mem_cons_of_mem _ hx)) (fun x hx => hs x (List.mem_cons_of_mem _ hx)) hl'
      rw [ih]
      generalize 10 ^ bs.length = B at *
      generalize 10 ^ ss.length = S at *
      have e1 : (b * B + val bs) * (S * 10) = 10 * (b * B * S + val bs * S) := by rw [Nat.add_mul, Nat.mul_comm S 10, ← Nat.mul_assoc, ← Nat.mul_assoc, Nat.mul_comm (b * B) 10, Nat.mul_comm (val bs) 10, Nat.mul_assoc, Nat.mul_assoc 10 (val bs), ← Nat.mul_add]
      have e2 : (b * S + val ss) * (B * 10) = 10 * (b * S * B + val ss * B) := by rw [Nat.add_mul, Nat.mul_comm B 10, ← Nat.mul_assoc, ← Nat.mul_assoc, Nat.mul_comm (b * S) 10, Nat.mul_comm (val ss) 10, Nat.mul_assoc, Nat.mul_assoc 10 (val ss), ← Nat.mul_add]
      have e3 : b * B * S = b * S * B := by rw [Nat.mul_assoc, Nat.mul_assoc, Nat.mul_comm B S]
      rw [e1, e2, e3]
      constructor <;> intro h <;> omega
    · rw [if_neg e]
      generalize hBv : 10 ^ bs.length = B at *
      generalize hSv : 10 ^ ss.length = S at *
      simp only [decide_eq_true_eq]
      have key (x y X Y u v : Nat) (hxy : x < y) (hu : u < X) (hv : v < Y) : (x * X + u) * (Y * 10) < (y * Y + v) * (X * 10) := by
        have h1 : x * X + u < (x + 1) * X := by rw [Nat.add_mul]; omega
        have h2 : (x * X + u) * (Y * 10) < (x + 1) * X * (Y * 10) := Nat.mul_lt_mul_of_pos_right h1 (by omega)
        have h3 : (x + 1) * X * (Y * 10) ≤ y * X * (Y * 10) := Nat.mul_le_mul_right _ (Nat.mul_le_mul_right _ hxy)
        have h4 : y * X * (Y * 10) = y * Y * (X * 10) := by
          rw [Nat.mul_assoc, Nat.mul_assoc, Nat.mul_left_comm X Y]
        have h5 : y * Y * (X * 10) ≤ (y * Y + v) * (X * 10) := Nat.mul_le_mul_right _ (by omega)
        omega
      constructor
      · intro h
        exact key b s B S (val bs) (val ss) h b1 s1
      · intro h
        by_cases h2 : b < s
        · exact h2
        · have := key s b S B (val ss) (val bs) (by omega) s1 b1
          omega
/-- The number of digits of a product by a power of two. -/
theorem grow_bounds {v L k C K : Nat} (h0 : 10 ^ (L - 1) ≤ v) (h1 : v < 10 ^ L) (hL : 1 ≤ L) (hC : C ≤ k) (hlo : 10 ^ (C - 1) ≤ 5 ^ k) (hhi : 5 ^ k < 10 ^ C) (hC1 : 1 ≤ C)
    (hK : K = L + (k - C + 1) - (if v * 10 ^ C < 5 ^ k * 10 ^ L then 1 else 0)) : 10 ^ (K - 1) ≤ v * 2 ^ k ∧ v * 2 ^ k < 10 ^ K := by
  have e10 : 5 ^ k * 2 ^ k = 10 ^ k := by rw [← Nat.mul_pow]
  have p5 : 0 < 5 ^ k := Nat.pow_pos (by omega)
  have p2 : 0 < 2 ^ k := Nat.pow_pos (by omega)
  split at hK
  · rename_i hp
    have hK : K = L + (k - C) := by omega
    constructor
    · -- v * 2^k ≥ 10^(L-1) * 2^k > 10^(L-1+k-C)
      have a1 : 10 ^ (k - C) * 10 ^ C < 2 ^ k * 10 ^ C := by
        rw [← Nat.pow_add, show k - C + C = k by omega, ← e10, Nat.mul_comm]
        exact Nat.mul_lt_mul_of_pos_left hhi p2
      have a2 : 10 ^ (k - C) < 2 ^ k := Nat.lt_of_mul_lt_mul_right a1
      calc 10 ^ (K - 1) = 10 ^ (L - 1) * 10 ^ (k - C) := by rw [← Nat.pow_add]; congr 1; omega
        _ ≤ v * 2 ^ k := Nat.mul_le_mul h0 (by omega)
    · have a1 : v * 10 ^ C * 2 ^ k < 5 ^ k * 10 ^ L * 2 ^ k := Nat.mul_lt_mul_of_pos_right hp p2
      have a2 : 5 ^ k * 10 ^ L * 2 ^ k = 10 ^ K * 10 ^ C := by
        rw [Nat.mul_right_comm, e10, ← Nat.pow_add, ← Nat.pow_add]; congr 1; omega
      rw [a2, Nat.mul_right_comm] at a1
      exact Nat.lt_of_mul_lt_mul_right a1
  · rename_i hp
    have hK : K = L + (k - C) + 1 := by omega
    constructor
    · have a1 : 5 ^ k * 10 ^ L * 2 ^ k ≤ v * 10 ^ C * 2 ^ k := Nat.mul_le_mul_right _ (by omega)
      have a2 : 5 ^ k * 10 ^ L * 2 ^ k = 10 ^ (K - 1) * 10 ^ C := by
        rw [Nat.mul_right_comm, e10, ← Nat.pow_add, ← Nat.pow_add]; congr 1; omega
      rw [a2, Nat.mul_right_comm] at a1
      exact Nat.le_of_mul_le_mul_right a1 (Nat.pow_pos (by omega))
    · have a1 : 2 ^ k * 10 ^ (C - 1) ≤ 10 ^ (k - C + 1) * 10 ^ (C - 1) := by
        rw [← Nat.pow_add, show k - C + 1 + (C - 1) = k by omega, ← e10, Nat.mul_comm (5 ^ k)]
        exact Nat.mul_le_mul_left _ hlo
      have a2 : 2 ^ k ≤ 10 ^ (k - C + 1) := Nat.le_of_mul_le_mul_right a1 (Nat.pow_pos (by omega))
      calc v * 2 ^ k < 10 ^ L * 2 ^ k := Nat.mul_lt_mul_of_pos_right h1 p2
        _ ≤ 10 ^ L * 10 ^ (k - C + 1) := Nat.mul_le_mul_left _ a2
        _ = 10 ^ K := by rw [← Nat.pow_add]; congr 1; omega
end PF
