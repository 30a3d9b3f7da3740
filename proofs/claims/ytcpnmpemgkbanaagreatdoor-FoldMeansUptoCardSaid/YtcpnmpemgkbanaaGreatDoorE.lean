/- Plain facts on sums of floats of 64 bits: what is no NaN stays so when a number is added; integers are numbers. No program in sight. -/
import Derived.Test.YtcpnmpemgkbanaaGreatDoorFloat
import Derived.Laws.Cover2
import Derived.Laws.FloatBits
namespace Go.Proofs.YtcpnmpemgkbanaaGreatDoor
open Ieee
def isNum : Datum → Prop
  | .number .. => True
  | _ => False
def noNaN : Datum → Prop
  | .nan .. => False
  | _ => True
theorem noNaN_num {d : Datum} (h : isNum d) : noNaN d := by cases d <;> trivial
theorem isNum_opp {d : Datum} (h : isNum d) : isNum d.opposite := by
  cases d with
  | number => trivial
  | infinity => exact h.elim
  | nan => exact h.elim
theorem read_word (t : Bool) (g : Nat) (h : g ≤ double.infRung) : double.read (double.word t g) =
    if g < double.binade then .number t g double.leastPlace else if g < double.infRung then .number t (double.binade + g % double.binade) (double.leastPlace + (g / double.binade - 1 : Nat)) else .infinity t := by
  have hsw : double.signWeight = 2 ^ 63 := rfl
  have hlt := double.infRung_lt
  have key : double.word t g % 2 ^ 63 = g ∧ (double.word t g / 2 ^ 63 % 2 == 1) = t := by
    unfold Format.word
    rw [hsw] at hlt ⊢
    cases t
    · simp only [Bool.false_eq_true, if_false]
      refine ⟨by omega, ?_⟩
      have : g / 2 ^ 63 % 2 = 0 := by omega
      rw [this]; rfl
    · simp only [if_true]
      refine ⟨by omega, ?_⟩
      have : (2 ^ 63 + g) / 2 ^ 63 % 2 = 1 := by omega
      rw [this]; rfl
  unfold Format.read
  rw [hsw, key.1, key.2]
  dsimp only
  split
  · rfl
  · split
    · rfl
    · rw [if_pos (by omega)]
/-- the rung of the nearest word hangs on no sign -/
def rung (mag : Nat) (place : Int) : Nat :=
  if mag = 0 then 0 else
  let last := max (place + mag.log2 - double.fractionBits) double.leastPlace
  let kept := Toward.even.cut false (mag <<< (place - last).toNat) (last - place).toNat
  min ((last - double.leastPlace).toNat * double.binade + kept) double.infRung
theorem nearest_rung (t : Bool) (mag : Nat) (place : Int) : double.nearest t mag place = double.word t (rung mag place) := by
  unfold Format.nearest rung
  split
  · rfl
  · rfl
theorem rung_le (mag : Nat) (place : Int) : rung mag place ≤ double.infRung := by
  unfold rung
  split
  · exact Nat.zero_le _
  · exact Nat.min_le_right _ _
theorem noNaN_word (t : Bool) (g : Nat) (h : g ≤ double.infRung) : noNaN (double.read (double.word t g)) := by
  rw [read_word t g h]
  split
  · trivial
  · split <;> trivial
theorem noNaN_write {d : Datum} (h : noNaN d) : noNaN (double.read (double.write d)) := by
  cases d with
  | nan => exact h.elim
  | infinity t => exact noNaN_word t _ (Nat.le_refl _)
  | number t m i =>
    show noNaN (double.read (double.nearest t m i))
    rw [nearest_rung]
    exact noNaN_word t _ (rung_le m i)
/-- The sum. -/
def fadd (x y : Nat) : Nat := (double.add x y).getD 0
theorem fadd_some {x y : Nat} (hx : noNaN (double.read x)) (hy : isNum (double.read y)) : double.add x y = some (fadd x y) ∧ noNaN (double.read (fadd x y)) := by
  have : ∃ d, (double.read x).sum (double.read y) = some d ∧ noNaN d := by
    cases hdx : double.read x with
    | nan => rw [hdx] at hx; exact hx.elim
    | infinity s =>
      cases hdy : double.read y with
      | nan => rw [hdy] at hy; exact hy.elim
      | infinity => rw [hdy] at hy; exact hy.elim
      | number => exact ⟨_, rfl, trivial⟩
    | number s m i =>
      cases hdy : double.read y with
      | nan => rw [hdy] at hy; exact hy.elim
      | infinity => rw [hdy] at hy; exact hy.elim
      | number => exact ⟨_, rfl, trivial⟩
  obtain ⟨d, hd, hn⟩ := this
  have e : double.add x y = some (double.write d) := by unfold Format.add; rw [hd]; rfl
  unfold fadd
  rw [e]
  exact ⟨rfl, noNaN_write hn⟩
theorem cut_le (n k B : Nat) (h : n < B * 2 ^ k) (hk : k ≤ n.log2 + 2) : Toward.even.cut false n k ≤ B := by
  unfold Toward.cut
  dsimp only
  rw [Nat.min_eq_left hk, Nat.one_shiftLeft]
  have h1 : n / 2 ^ k < B := by rw [Nat.div_lt_iff_lt_mul (Nat.two_pow_pos _)]; exact h
  generalize (decide (2 ^ k < 2 * (n % 2 ^ k)) || 2 ^ k == 2 * (n % 2 ^ k) && n / 2 ^ k % 2 == 1) = b
  cases b <;> simp [Bool.toNat] <;> omega
theorem cut_zero (n : Nat) : Toward.even.cut false n 0 = n := by
  have hg : (1 <<< min 0 (n.log2 + 2) : Nat) = 1 := by rw [Nat.zero_min]; rfl
  unfold Toward.cut
  dsimp only
  rw [hg]
  have h1 : n % 1 = 0 := Nat.mod_one n
  have h2 : n / 1 = n := Nat.div_one n
  rw [h1, h2]
  simp
theorem int_rung (m : Nat) (h : m < 2 ^ 64) : rung m 0 < double.infRung := by
  unfold rung
  split
  · decide
  · rename_i h0
    have h15 : m.log2 < 64 := (Nat.log2_lt h0).2 h
    have hfb : double.fractionBits = 52 := rfl
    have hlp : double.leastPlace = -1074 := by decide
    have hbin : double.binade = 2 ^ 52 := rfl
    have hinf : double.infRung = 2047 * 2 ^ 52 := rfl
    have hmax : max ((0 : Int) + (m.log2 : Int) - (double.fractionBits : Nat)) double.leastPlace = (m.log2 : Int) - 52 := by rw [hfb, hlp]; omega
    dsimp only
    rw [hmax, hlp, hbin, hinf]
    have hkept : Toward.even.cut false (m <<< ((0 : Int) - ((m.log2 : Int) - 52)).toNat) ((m.log2 : Int) - 52 - 0).toNat ≤ 2 ^ 53 := by
      by_cases hl : m.log2 ≤ 52
      · have e1 : ((m.log2 : Int) - 52 - 0).toNat = 0 := by omega
        have e2 : (0 - ((m.log2 : Int) - 52)).toNat = 52 - m.log2 := by omega
        rw [e1, e2, cut_zero, Nat.shiftLeft_eq]
        have h1 : m < 2 ^ (m.log2 + 1) := Nat.lt_log2_self
        have h2 : m * 2 ^ (52 - m.log2) < 2 ^ (m.log2 + 1) * 2 ^ (52 - m.log2) := Nat.mul_lt_mul_of_pos_right h1 (Nat.two_pow_pos _)
        rw [← Nat.pow_add, show m.log2 + 1 + (52 - m.log2) = 53 from by omega] at h2
        omega
      · have e1 : ((m.log2 : Int) - 52 - 0).toNat = m.log2 - 52 := by omega
        have e2 : (0 - ((m.log2 : Int) - 52)).toNat = 0 := by omega
        rw [e1, e2, Nat.shiftLeft_zero]
        refine cut_le m _ (2 ^ 53) ?_ (by omega)
        rw [← Nat.pow_add, show 53 + (m.log2 - 52) = m.log2 + 1 from by omega]
        exact Nat.lt_log2_self
    generalize Toward.even.cut false (m <<< ((0 : Int) - ((m.log2 : Int) - 52)).toNat) ((m.log2 : Int) - 52 - 0).toNat = z at *
    have e3 : ((m.log2 : Int) - 52 - -1074).toNat = m.log2 + 1022 := by omega
    rw [e3]
    have : (m.log2 + 1022) * 2 ^ 52 ≤ 1085 * 2 ^ 52 := Nat.mul_le_mul_right _ (by omega)
    refine Nat.lt_of_le_of_lt (Nat.min_le_left _ _) ?_
    omega
theorem int_num (t : Bool) (m : Nat) (h : m < 2 ^ 64) : isNum (double.read (double.nearest t m 0)) := by
  have hl := int_rung m h
  rw [nearest_rung, read_word _ _ (rung_le m 0)]
  split
  · trivial
  · trivial
theorem floatOf_num (v : Int) (h : v.natAbs < 2 ^ 64) : isNum (double.read (Go.floatOfInt .f64 v)) := int_num _ _ h
theorem floatOf_lt (v : Int) : Go.floatOfInt .f64 v < 2 ^ 64 := double.nearest_lt _ _ _
end Go.Proofs.YtcpnmpemgkbanaaGreatDoor
