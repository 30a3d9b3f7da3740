/- Plain facts on floats of 64 bits, no program in sight: what a sum gives up to the bits of a NaN, a difference as a sum with the opposite, and sums of opposite numbers. No condition. -/
import Derived.WalkKit
import Derived.Laws.FloatArith
import Derived.Deep.Draws
namespace Go.Proofs.YtnnoefbmoafbnaaDoor
open Ieee
/-- r is a NaN. -/
def isN (r : Nat) : Prop := double.read r = .nan (double.read r).neg (match double.read r with | .nan _ f => f | _ => 0)
theorem isN_of {r : Nat} {s : Bool} {f : Nat} (h : double.read r = .nan s f) : isN r := by unfold isN; rw [h]; rfl
theorem isN_iff {r : Nat} : isN r ↔ ∃ s f, double.read r = .nan s f := ⟨fun h => ⟨_, _, h⟩, fun ⟨_, _, h⟩ => isN_of h⟩
def addR (x y r : Nat) : Prop := match double.add x y with
  | some s => r = s
  | none => isN r
def subR (x y r : Nat) : Prop := match double.sub x y with
  | some s => r = s
  | none => isN r
theorem cut_nan (x y t : Nat) : isN ((Question.nanBits .f64 x y).cut t) := by
  have e : (Question.nanBits .f64 x y).cut t = (t % 2) * 9223372036854775808 + 9218868437227405312 + 1 + (t / 2) % 4503599627370495 := rfl
  rw [e]
  have hsw : double.signWeight = 9223372036854775808 := rfl
  have hb : double.binade = 4503599627370496 := rfl
  have hi : double.infRung = 9218868437227405312 := rfl
  refine isN_of (s := ((t % 2) * 9223372036854775808 + 9218868437227405312 + 1 + (t / 2) % 4503599627370495) / 9223372036854775808 % 2 == 1) (f := (t / 2) % 4503599627370495 + 1) ?_
  unfold Format.read
  rw [hsw, hb, hi]
  have hm : ((t % 2) * 9223372036854775808 + 9218868437227405312 + 1 + (t / 2) % 4503599627370495) % 9223372036854775808 = 9218868437227405312 + 1 + (t / 2) % 4503599627370495 := by omega
  rw [hm]
  dsimp only
  rw [if_neg (by omega), if_neg (by omega), if_neg (by omega)]
  have hz : 9218868437227405312 + 1 + (t / 2) % 4503599627370495 - 9218868437227405312 = (t / 2) % 4503599627370495 + 1 := by omega
  rw [hz]
theorem run_fadd (P : Program) (w : World) (t : TypeId) (x y : Nat) : ∃ r n, addR x y r ∧ (binOp .add t (.float .f64 x) (.float .f64 y)).run P w = .ok (.float .f64 r) (w.drewN n) := by
  unfold addR
  cases h : double.add x y with
  | some s => exact ⟨s, 0, rfl, run_float_arith w .add t .f64 x y s h⟩
  | none =>
    refine ⟨(Question.nanBits .f64 x y).cut (w.tape w.drawn (.nanBits .f64 x y)), 1, cut_nan _ _ _, ?_⟩
    have h' : FloatKind.f64.format.add x y = none := h
    simp [binOp, Op.floatArith, h', Question.forced]
    rfl
theorem run_fsub (P : Program) (w : World) (t : TypeId) (x y : Nat) : ∃ r n, subR x y r ∧ (binOp .sub t (.float .f64 x) (.float .f64 y)).run P w = .ok (.float .f64 r) (w.drewN n) := by
  unfold subR
  cases h : double.sub x y with
  | some s => exact ⟨s, 0, rfl, run_float_arith w .sub t .f64 x y s h⟩
  | none =>
    refine ⟨(Question.nanBits .f64 x y).cut (w.tape w.drawn (.nanBits .f64 x y)), 1, cut_nan _ _ _, ?_⟩
    have h' : FloatKind.f64.format.sub x y = none := h
    simp [binOp, Op.floatArith, h', Question.forced]
    rfl
/-- The sign bit turned. -/
def neg (b : Nat) : Nat := Op.negFloat .f64 b
theorem neg_low {b : Nat} (h : b < 2 ^ 63) : neg b = b + 2 ^ 63 := by
  have e : neg b = b ^^^ 2 ^ 63 := rfl
  rw [e]
  refine Nat.eq_of_testBit_eq fun i => ?_
  rw [Nat.testBit_xor, Nat.testBit_two_pow, Nat.add_comm]
  rcases Nat.lt_trichotomy i 63 with hi | hi | hi
  · rw [Nat.testBit_two_pow_add_gt hi]; have : ¬ (63 = i) := by omega
    simp [this]
  · subst hi; rw [Nat.testBit_two_pow_add_eq]; simp
  · have h1 : b < 2 ^ i := Nat.lt_trans h (Nat.pow_lt_pow_right (by omega) hi)
    have h2 : 2 ^ 63 + b < 2 ^ i := Nat.lt_of_lt_of_le (show 2 ^ 63 + b < 2 ^ 64 by omega) (Nat.pow_le_pow_right (by omega) hi)
    rw [Nat.testBit_lt_two_pow h1, Nat.testBit_lt_two_pow h2]
    have : ¬ (63 = i) := by omega
    simp [this]
theorem neg_neg' (b : Nat) : neg (neg b) = b := by
  have e : neg (neg b) = (b ^^^ 2 ^ 63) ^^^ 2 ^ 63 := rfl
  rw [e, Nat.xor_assoc, Nat.xor_self, Nat.xor_zero]
theorem neg_high {b : Nat} (h : 2 ^ 63 ≤ b) (h' : b < 2 ^ 64) : neg b = b - 2 ^ 63 := by
  have h1 := neg_low (b := b - 2 ^ 63) (by omega)
  rw [show b - 2 ^ 63 + 2 ^ 63 = b from by omega] at h1
  rw [← h1, neg_neg', h1]
theorem read_neg {b : Nat} (h : b < 2 ^ 64) : double.read (neg b) = (double.read b).opposite := by
  have hsw : double.signWeight = 2 ^ 63 := rfl
  have key : neg b % 2 ^ 63 = b % 2 ^ 63 ∧ (neg b / 2 ^ 63 % 2 == 1) = !(b / 2 ^ 63 % 2 == 1) := by
    by_cases hb : b < 2 ^ 63
    · rw [neg_low hb]
      have h1 : (b + 2 ^ 63) / 2 ^ 63 % 2 = 1 := by omega
      have h2 : b / 2 ^ 63 % 2 = 0 := by omega
      rw [h1, h2]
      exact ⟨by omega, rfl⟩
    · rw [neg_high (by omega) h]
      have h1 : (b - 2 ^ 63) / 2 ^ 63 % 2 = 0 := by omega
      have h2 : b / 2 ^ 63 % 2 = 1 := by omega
      rw [h1, h2]
      exact ⟨by omega, rfl⟩
  unfold Format.read
  rw [hsw, key.1, key.2]
  dsimp only
  split
  · rfl
  · split
    · rfl
    · split <;> rfl
theorem sub_eq {x y : Nat} (h : y < 2 ^ 64) : double.sub x y = double.add x (neg y) := by
  unfold Format.sub Format.add
  rw [read_neg h]
theorem subR_iff {x y r : Nat} (h : y < 2 ^ 64) : subR x y r ↔ addR x (neg y) r := by
  unfold subR addR
  rw [sub_eq h]
/-- Equal, or both no numbers. -/
def Sim (a b : Nat) : Prop := a = b ∨ (isN a ∧ isN b)
theorem Sim.rfl' (a : Nat) : Sim a a := .inl rfl
theorem add_nan {x y : Nat} (h : isN x) : double.add x y = none := by
  obtain ⟨s, f, hx⟩ := isN_iff.1 h
  unfold Format.add
  rw [hx]
  rfl
theorem addR_sim {x x' y r r' : Nat} (hx : Sim x x') (h : addR x y r) (h' : addR x' y r') : Sim r r' := by
  unfold addR at h h'
  rcases hx with rfl | ⟨a, b⟩
  · split at h
    · rename_i s hs; rw [hs] at h'; exact .inl (h.trans h'.symm)
    · rename_i hs; rw [hs] at h'; exact .inr ⟨h, h'⟩
  · rw [add_nan a] at h; rw [add_nan b] at h'
    exact .inr ⟨h, h'⟩
theorem addR_lt {x y r : Nat} (h : addR x y r) : isN r ∨ r < 2 ^ 64 := by
  unfold addR at h
  split at h
  · rename_i s hs; subst h; exact .inr (double.add_lt hs)
  · exact .inl h
theorem floatEq_iff (a b : Nat) : Op.floatEq .f64 a b = (double.order a b == some .eq) := rfl
theorem order_self {d : Datum} (h : d.isNaN = false) : d.order d = some .eq := by
  cases d with
  | nan => simp [Datum.isNaN] at h
  | infinity s => cases s <;> rfl
  | number s m i => simp [Datum.order, compare, compareOfLessAndEq]
theorem neq_nan {a : Nat} (h : isN a) : double.order a a = none := by
  obtain ⟨s, f, hx⟩ := isN_iff.1 h
  unfold Format.order
  rw [hx]; rfl
end Go.Proofs.YtnnoefbmoafbnaaDoor
