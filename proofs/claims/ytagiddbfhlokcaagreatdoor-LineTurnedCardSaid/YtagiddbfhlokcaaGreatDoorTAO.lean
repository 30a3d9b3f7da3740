/- Several texts of this proof, laid together. Conditions: as each says. -/
import Derived.Test.YtagiddbfhlokcaaGreatDoorTAM
import Derived.Test.YtagiddbfhlokcaaGreatDoorTAA
/- The middle way of ParseFloat is right. Conditions: the table of powers. -/
namespace PF
end PF
/- IEEE's rounding gives the rung that is nearest. No condition. -/
namespace PF
open Ieee
/-- The number that is rounded is mag, or it lies beside an odd mag of many digits. -/
def Beside (tm : Rat) (mag : Nat) : Prop := tm = (mag : Rat) ∨ (∃ Q : Nat, mag = 2 * Q + 1 ∧ 9007199254740992 ≤ Q ∧ 2 * (Q : Rat) < tm ∧ tm < 2 * (Q : Rat) + 2)
theorem Beside.le {tm : Rat} {mag c : Nat} (h : Beside tm mag) (hc : 9007199254740992 ≤ mag / 2 → c % 2 = 0) (hm : c ≤ mag) : (c : Rat) ≤ tm ∧ (c < mag → (c : Rat) < tm) := by
  rcases h with rfl | ⟨Q, h1, h2, h3, h4⟩
  · exact ⟨castle hm, fun h => castlt h⟩
  · have := hc (by omega)
    have := castle (show c ≤ 2 * Q by omega)
    rw [casttw] at this
    exact ⟨by grind, fun _ => by grind⟩
theorem Beside.ge {tm : Rat} {mag c : Nat} (h : Beside tm mag) (hc : 9007199254740992 ≤ mag / 2 → c % 2 = 0) (hm : mag ≤ c) : tm ≤ (c : Rat) ∧ (mag < c → tm < (c : Rat)) := by
  rcases h with rfl | ⟨Q, h1, h2, h3, h4⟩
  · exact ⟨castle hm, fun h => castlt h⟩
  · have := hc (by omega)
    have := castle (show 2 * Q + 2 ≤ c by omega)
    rw [Rat.natCast_add, casttw] at this
    have t : ((2 : Nat) : Rat) = 2 := rfl
    rw [t] at this
    exact ⟨by grind, fun _ => by grind⟩
theorem Beside.exact {tm : Rat} {mag : Nat} (h : Beside tm mag) (hm : mag / 2 < 9007199254740992) : tm = (mag : Rat) := by
  rcases h with rfl | ⟨Q, h1, h2, h3, h4⟩
  · rfl
  · omega
end PF
