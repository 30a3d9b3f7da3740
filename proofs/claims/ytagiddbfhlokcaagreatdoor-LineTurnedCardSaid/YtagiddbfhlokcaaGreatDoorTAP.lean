/- Several texts of this proof, laid together. Conditions: as each says. -/
import Derived.Test.YtagiddbfhlokcaaGreatDoorTAO
import Derived.Test.YtagiddbfhlokcaaGreatDoorTAA
import Derived.Test.YtagiddbfhlokcaaGreatDoorTAN
import Derived.Test.YtagiddbfhlokcaaGreatDoorTAF
/- The short way of ParseFloat is right: products and quotients of exact floats. Conditions: the table of the 23 powers. -/
namespace PF
open Ieee
set_option exponentiation.threshold 3000
end PF
/- A float's text is read as the float. Conditions: the tables of powers. -/
namespace PF
open Go
set_option exponentiation.threshold 3000
theorem numD_lt : ∀ (L : List UInt8), L.all isDig = true → numD L < 10 ^ L.length
  | [], _ => by decide
  | c :: L, h => by
    simp only [List.all_cons, Bool.and_eq_true] at h
    have ih := numD_lt L h.2
    have hc := h.1
    unfold isDig at hc
    rw [Bool.and_eq_true, decide_eq_true_eq, decide_eq_true_eq] at hc
    rw [numD_cons, List.length_cons, Nat.pow_succ]
    have : (c.toNat - 48) * 10 ^ L.length ≤ 9 * 10 ^ L.length := Nat.mul_le_mul_right _ (by omega)
    omega
theorem digs_pos {c : UInt8} {r : List UInt8} (h : (c :: r).all isDig = true) (hc : c ≠ 48) : 0 < numD (c :: r) := by
  simp only [List.all_cons, Bool.and_eq_true] at h
  have h1 := h.1
  unfold isDig at h1
  rw [Bool.and_eq_true, decide_eq_true_eq, decide_eq_true_eq] at h1
  have h2 : c.toNat ≠ 48 := fun e => hc (UInt8.toNat_inj.1 e)
  have h10 := Nat.pow_pos (n := r.length) (show 0 < 10 by omega)
  rw [numD_cons]
  have : 1 * 1 ≤ (c.toNat - 48) * 10 ^ r.length := Nat.mul_le_mul (by omega) h10
  omega
/-- Digits: the first no nought, at most 17. -/
structure DigL (D : List UInt8) : Prop where
  all : D.all isDig = true
  head : ∃ c r, D = c :: r ∧ c ≠ 48
  len : D.length ≤ 17
theorem DigL.pos {D : List UInt8} (h : DigL D) : 0 < numD D ∧ 1 ≤ D.length := by
  obtain ⟨a, ⟨c, r, rfl, hc⟩, _⟩ := h
  exact ⟨digs_pos a hc, by simp⟩
theorem DigL.lt {D : List UInt8} (h : DigL D) : numD D < 100000000000000000 := by
  have := numD_lt D h.all
  have : 10 ^ D.length ≤ 10 ^ 17 := Nat.pow_le_pow_right (by decide) h.len
  omega
end PF
/- A float printed and read again is the float. Conditions: the tables of powers. -/
namespace PF
open Go Go.Proofs.YtagiddbfhlokcaaGreatDoor
/-- The mantissa of a float, its exponent (in units of '2 ^ -1074'), and how far it is shifted. -/
def fMan (r : Nat) : Nat := if r / 4503599627370496 = 0 then r % 4503599627370496 else r % 4503599627370496 + 4503599627370496
def fExp (r : Nat) : Nat := r / 4503599627370496 - 1
def fSh (r : Nat) : Nat := 63 - (fMan r).log2
def fShort (T : Int → Nat × Nat) (r : Nat) : Nat × Int := Ff.shortF T (fMan r * 2 ^ fSh r) ((fExp r : Int) - 1074 - fSh r)
/-- A float's digits, and the place of the point. -/
def fDec (T : Int → Nat × Nat) (x : Nat) : List UInt8 × Int :=
  let r := x % 9223372036854775808
  if r = 0 then ([], 0) else (trim48 (Lib.decDigits (fShort T r).1), (Lib.nDigits (fShort T r).1 : Int) + (fShort T r).2)
theorem f_norm {r : Nat} (h0 : 0 < r) (h : r < 9218868437227405312) : Norm (fExp r) (fMan r) (fSh r) ∧ r = fExp r * 4503599627370496 + fMan r := by
  have hn : 0 < fMan r ∧ fMan r < 9007199254740992 ∧ (fExp r = 0 ∨ 4503599627370496 ≤ fMan r) ∧ fExp r ≤ 2045 ∧ r = fExp r * 4503599627370496 + fMan r := by
    unfold fMan fExp
    split <;> omega
  obtain ⟨n0, n1, hk, k1, hr⟩ := hn
  refine ⟨⟨hk, n0, n1, k1, ?_, ?_⟩, hr⟩
  · have l1 : 2 ^ (fMan r).log2 ≤ fMan r := Nat.log2_self_le (by omega)
    have l2 : (fMan r).log2 < 53 := (Nat.log2_lt (by omega)).2 (by omega)
    unfold fSh
    calc 9223372036854775808 = 2 ^ (fMan r).log2 * 2 ^ (63 - (fMan r).log2) := by rw [← Nat.pow_add, show (fMan r).log2 + (63 - (fMan r).log2) = 63 by omega]
      _ ≤ fMan r * 2 ^ (63 - (fMan r).log2) := Nat.mul_le_mul_right _ l1
  · have l1 : fMan r < 2 ^ ((fMan r).log2 + 1) := Nat.lt_log2_self
    have l2 : (fMan r).log2 < 53 := (Nat.log2_lt (by omega)).2 (by omega)
    unfold fSh
    calc fMan r * 2 ^ (63 - (fMan r).log2) < 2 ^ ((fMan r).log2 + 1) * 2 ^ (63 - (fMan r).log2) := (Nat.mul_lt_mul_right (Nat.two_pow_pos _)).2 l1
      _ = 18446744073709551616 := by rw [← Nat.pow_add, show (fMan r).log2 + 1 + (63 - (fMan r).log2) = 64 by omega]
theorem digs_le {c : UInt8} {r : List UInt8} (h : (c :: r).all isDig = true) (hc : c ≠ 48) : 10 ^ r.length ≤ numD (c :: r) := by
  simp only [List.all_cons, Bool.and_eq_true] at h
  have h1 := h.1
  unfold isDig at h1
  rw [Bool.and_eq_true, decide_eq_true_eq, decide_eq_true_eq] at h1
  have h2 : c.toNat ≠ 48 := fun e => hc (UInt8.toNat_inj.1 e)
  rw [numD_cons]
  have : 1 * 10 ^ r.length ≤ (c.toNat - 48) * 10 ^ r.length := Nat.mul_le_mul_right _ (by omega)
  omega
theorem len17 {c : UInt8} {r : List UInt8} (h : (c :: r).all isDig = true) (hc : c ≠ 48) (hl : numD (c :: r) < 100000000000000000) : (c :: r).length ≤ 17 := by
  have := digs_le h hc
  rw [List.length_cons]
  refine Nat.le_of_not_lt fun h17 => ?_
  have : 10 ^ 17 ≤ 10 ^ r.length := Nat.pow_le_pow_right (by decide) (by omega)
  omega
theorem nDigits17 {u : Nat} (h0 : 0 < u) (h : u < 100000000000000000) : Lib.nDigits u ≤ 17 := by
  obtain ⟨c, r, e, hc⟩ := dec_head h0
  obtain ⟨a, b⟩ := dec_num u
  rw [← Lib.decDigits_length]
  rw [e] at a b ⊢
  exact len17 b hc (by omega)
/-- The digits are those of the float. -/
theorem fDec_spec {T : Int → Nat × Nat} (hT : TabPow T) {r : Nat} (h0 : 0 < r) (h : r < 9218868437227405312) : DigL (fDec T r).1 ∧ -1000 ≤ (fDec T r).2 ∧ (fDec T r).2 ≤ 1000 ∧ Near ((numD (fDec T r).1 : Rat) * (10 : Rat) ^ ((fDec T r).2 - ((fDec T r).1.length : Nat)) * (2 : Rat) ^ (1075 : Int)) r := by
  obtain ⟨hN, hr⟩ := f_norm h0 h
  obtain ⟨R, hR, n1, d0, d1, b1, b2⟩ := short_near hT hN
  rw [← hr] at n1
  have hR2 : fShort T r = R := hR
  obtain ⟨z, t1, t2, t3, c, t, t4, t5⟩ := trim_dec d0
  have hmod : r % 9223372036854775808 = r := Nat.mod_eq_of_lt (by omega)
  have e : fDec T r = (trim48 (Lib.decDigits R.1), (Lib.nDigits R.1 : Int) + R.2) := by
    unfold fDec
    simp only
    rw [hmod, if_neg (by omega), hR2]
  rw [e]
  simp only
  obtain ⟨D, hD⟩ : ∃ D, trim48 (Lib.decDigits R.1) = D := ⟨_, rfl⟩
  rw [hD] at t1 t2 t3 t4 ⊢
  have hnd := nDigits17 d0 d1
  have hlt : numD D < 100000000000000000 := by
    have := Nat.mul_le_mul_left (numD D) (show 1 ≤ 10 ^ z from Nat.one_le_pow _ _ (by decide))
    omega
  refine ⟨⟨t3, ⟨c, t, t4, t5⟩, by rw [t4] at t3 hlt ⊢; exact len17 t3 t5 hlt⟩, by omega, by omega, ?_⟩
  have e3 : (numD D : Rat) * (10 : Rat) ^ ((Lib.nDigits R.1 : Int) + R.2 - (D.length : Nat)) = (R.1 : Rat) * (10 : Rat) ^ R.2 := by
    rw [show (Lib.nDigits R.1 : Int) + R.2 - (D.length : Nat) = (z : Int) + R.2 by omega, ← t2, Rat.natCast_mul, cast10, Rat.zpow_add r10, Rat.mul_assoc]
  rw [e3]
  exact n1
/-- The text of a float's bits. -/
def flText (T : Int → Nat × Nat) (x : Nat) : List UInt8 := flTx (decide (9223372036854775808 ≤ x)) (fDec T (x % 9223372036854775808)).1 (fDec T (x % 9223372036854775808)).2
end PF
