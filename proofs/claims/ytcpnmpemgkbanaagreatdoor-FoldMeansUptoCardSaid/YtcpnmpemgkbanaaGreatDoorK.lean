/- Plain law on the windows of a range: they lie side by side. No condition. -/
import Derived.Test.YtcpnmpemgkbanaaGreatDoorB
namespace Go.Proofs.YtcpnmpemgkbanaaGreatDoor
theorem win_safe (t w : Int) (hw : 1 ≤ w) (h : lo63 + w ≤ t) : win t w = w * (t / w) := by
  have h1 := emod_bd t w hw
  have h2 := sub_emod t w
  rcases win_or t w hw with ⟨_, b⟩ | ⟨a, _⟩
  · omega
  · exact a
theorem wat_safe (f w : Int) (hw : 1 ≤ w) (h : lo63 + w ≤ f) : ∀ k : Nat, wat f w k = w * (f / w + k)
  | 0 => by rw [wat, win_safe f w hw h]; simp
  | k + 1 => by
    rw [wat, wat_safe f w hw h k, Int.mul_emod_right, Int.sub_zero]
    rw [show ((k + 1 : Nat) : Int) = (k : Int) + 1 from rfl, ← Int.add_assoc, Int.mul_add w (f / w + k) 1]
    omega
theorem div_far (f l w : Int) (hw : 1 ≤ w) (hfl : f ≤ l) (hfar : l - f < 900 * w) : f / w ≤ l / w ∧ l / w ≤ f / w + 900 := by
  refine ⟨Int.ediv_le_ediv (by omega) hfl, ?_⟩
  have h1 : l < (f / w + 901) * w := by
    have h2 := sub_emod f w
    have h3 := emod_bd f w hw
    rw [Int.add_mul, Int.mul_comm (f / w) w]
    omega
  have := Int.ediv_lt_of_lt_mul (by omega) h1
  omega
theorem tiles_says {f l w : Int} {k : Nat} {err : Int} (hw : 1 ≤ w) (hs : lo63 + w ≤ f) (hfl : f ≤ l) (hfar : l - f < 900 * w) (h : winSays f l w k err) :
    err = 0 ∧ 1 ≤ k ∧ k ≤ 1000 ∧ l / w = f / w + (k - 1 : Nat) := by
  obtain ⟨d1, d2⟩ := div_far f l w hw hfl hfar
  unfold winSays at h
  rcases h with ⟨h, _⟩ | ⟨_, ⟨_, _, h⟩ | ⟨h1, h2, h3, h4, _⟩⟩
  · omega
  · exfalso
    refine h (l / w - f / w).toNat (by omega) ?_
    rw [wat_safe f w hw hs, win_safe l w hw (by omega)]
    congr 1
    omega
  · refine ⟨h3, h1, h2, ?_⟩
    rw [wat_safe f w hw hs, win_safe l w hw (by omega)] at h4
    have := Int.eq_of_mul_eq_mul_left (by omega) h4
    exact this.symm
/-- A time lies in the window of its own alone. -/
theorem tile_one (f w t : Int) (hw : 1 ≤ w) (j : Nat) : (w * (f / w + j) ≤ t ∧ t - w * (f / w + j) < w) ↔ f / w + j = t / w := by
  have h2 := Int.mul_ediv_add_emod t w
  have h3 := emod_bd t w hw
  constructor
  · rintro ⟨a, b⟩
    have h4 : f / w + j ≤ t / w := by
      rw [Int.le_ediv_iff_mul_le (by omega), Int.mul_comm]; exact a
    have h5 : t / w < f / w + j + 1 := by
      refine Int.ediv_lt_of_lt_mul (by omega) ?_
      rw [Int.mul_comm, Int.mul_add]
      omega
    omega
  · intro h
    rw [h]
    omega
theorem tile_cmp (f w t : Int) (hw : 1 ≤ w) (j : Nat) : (f / w + j < t / w → w * (f / w + j) + w ≤ t) ∧ (f / w + j = t / w → w * (f / w + j) ≤ t ∧ t - w * (f / w + j) < w) ∧ (t / w < f / w + j → t < w * (f / w + j)) := by
  have h2 := Int.mul_ediv_add_emod t w
  have h3 := emod_bd t w hw
  refine ⟨fun h => ?_, fun h => ?_, fun h => ?_⟩
  · have h4 : w * (f / w + j + 1) ≤ w * (t / w) := Int.mul_le_mul_of_nonneg_left (by omega) (by omega)
    rw [Int.mul_add w (f / w + j) 1] at h4
    omega
  · rw [h]; omega
  · have h4 : w * (t / w + 1) ≤ w * (f / w + j) := Int.mul_le_mul_of_nonneg_left (by omega) (by omega)
    rw [Int.mul_add w (t / w) 1] at h4
    omega
theorem tile_bd (f l w : Int) (hw : 1 ≤ w) (j : Nat) (h : f / w + j ≤ l / w) : f - w < w * (f / w + j) ∧ w * (f / w + j) ≤ l := by
  have h2 := Int.mul_ediv_add_emod l w
  have h3 := emod_bd l w hw
  have h4 := Int.mul_ediv_add_emod f w
  have h5 := emod_bd f w hw
  have h6 : w * (f / w) ≤ w * (f / w + j) := Int.mul_le_mul_of_nonneg_left (by omega) (by omega)
  have h7 : w * (f / w + j) ≤ w * (l / w) := Int.mul_le_mul_of_nonneg_left h (by omega)
  omega
end Go.Proofs.YtcpnmpemgkbanaaGreatDoor
