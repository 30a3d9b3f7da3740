/- The walks of Window and over: where the window of a time begins. No condition. -/
import Derived.Test.YtcpnmpemgkbanaaGreatDoorRows
import Derived.WalkKit
import Derived.ProofKit
import Derived.OpenShut
import Derived.Below
import Derived.WalkLawsBesides
import Derived.Deep.Draws
import Derived.Lib.Hide
import Derived.Outline
namespace Go.Proofs.YtcpnmpemgkbanaaGreatDoor
open Go.RowKit
/-- By how much a time is beyond a multiple. -/
def ovr (t w : Int) : Int := t % w
/-- Where the window of a time begins. -/
def win (t w : Int) : Int := if w < 1 then t else if t < -9223372036854775808 + t % w then -9223372036854775808 else t - t % w
theorem tmod_lo (t w : Int) (h : 1 ≤ w) : -w < t.tmod w ∧ t.tmod w < w ∧ (t.tmod w < 0 → t.tmod w + w = t % w) ∧ (0 ≤ t.tmod w → t.tmod w = t % w) := by
  have h1 := Int.emod_nonneg t (b := w) (by omega)
  have h2 := Int.emod_lt_of_pos t (b := w) (by omega)
  have h4 : (w.natAbs : Int) = w := by omega
  have h3 : t.tmod w = t % w - ↑(if 0 ≤ t ∨ w ∣ t then 0 else Int.natAbs w) := Int.tmod_eq_emod
  have h5 : t.tmod w < 0 ∨ 0 ≤ t.tmod w := by omega
  by_cases h6 : 0 ≤ t ∨ w ∣ t
  · rw [if_pos h6] at h3
    simp at h3
    omega
  · rw [if_neg h6] at h3
    omega
theorem over_any (t w : Int) (W : World) (h : 1 ≤ w) (hw : w ≤ 9223372036854775807) :
    Calls Tryz.prog 24 #[.int .i64 t, .int .i64 w] W fun e w' => e = .returned (.int .i64 (ovr t w)) ∧ W = w' := by
  obtain ⟨h1, h2, h3, h4⟩ := tmod_lo t w h
  obtain ⟨m, hm⟩ : ∃ m, ovr t w = m := ⟨_, rfl⟩
  rw [hm]
  have HM := Lib.hid hm
  clear hm
  by_cases hn : t.tmod w < 0
  · have h5 := h3 hn
    have HH := Lib.hid h5
    clear h3 h4 h5
    go_enter Tryz.func24, Tryz.ntmps24
    go_wp2
    go_ret
    exact ⟨by rw [HH.out, ← HM.out]; rfl, rfl⟩
  · have h5 := h4 (by omega)
    have HH := Lib.hid h5
    clear h3 h4 h5
    have hn' : 0 ≤ t.tmod w := by omega
    go_enter Tryz.func24, Tryz.ntmps24
    go_wp2
    go_ret
    exact ⟨by rw [HH.out, ← HM.out]; rfl, rfl⟩
theorem emod_bd (t w : Int) (h : 1 ≤ w) : 0 ≤ t % w ∧ t % w < w := ⟨Int.emod_nonneg t (by omega), Int.emod_lt_of_pos t (by omega)⟩
theorem window_no (t w : Int) (W : World) (h : w < 1) : Calls Tryz.prog 16 #[.int .i64 t, .int .i64 w] W fun e w' => e = .returned (.int .i64 (win t w)) ∧ W = w' := by
  have hw : win t w = t := by simp [win, h]
  have HW := Lib.hid hw
  clear hw
  go_enter Tryz.func16, Tryz.ntmps16
  go_wp2
  go_ret
  exact ⟨by rw [HW.out]; rfl, rfl⟩
theorem window_yes (t w : Int) (W : World) (h : 1 ≤ w) (ht : -9223372036854775808 ≤ t ∧ t ≤ 9223372036854775807) (hw : w ≤ 9223372036854775807) :
    Calls Tryz.prog 16 #[.int .i64 t, .int .i64 w] W fun e w' => e = .returned (.int .i64 (win t w)) ∧ W = w' := by
  obtain ⟨h1, h2, h3, h4⟩ := tmod_lo t w h
  obtain ⟨h5, h6⟩ := emod_bd t w h
  have hwin : win t w = if t < -9223372036854775808 + t % w then -9223372036854775808 else t - t % w := by simp [win]; omega
  obtain ⟨m, hm⟩ : ∃ m, t % w = m := ⟨_, rfl⟩
  rw [hm] at h3 h4 h5 h6 hwin
  have HW := Lib.hid hwin
  clear hwin hm
  have hne : ¬ w < 1 := by omega
  by_cases hn : t.tmod w < 0
  · obtain rfl := h3 hn
    clear h3 h4
    by_cases hlo : t < -9223372036854775808 + (t.tmod w + w)
    · go_enter Tryz.func16, Tryz.ntmps16
      go_wp2
      go_ret
      exact ⟨by rw [HW.out, if_pos hlo]; rfl, rfl⟩
    · go_enter Tryz.func16, Tryz.ntmps16
      go_wp2
      go_ret
      exact ⟨by rw [HW.out, if_neg (by omega)]; rfl, rfl⟩
  · obtain rfl := h4 (by omega)
    have hn' : 0 ≤ t.tmod w := by omega
    clear h3 h4
    by_cases hlo : t < -9223372036854775808 + t.tmod w
    · go_enter Tryz.func16, Tryz.ntmps16
      go_wp2
      go_ret
      exact ⟨by rw [HW.out, if_pos hlo]; rfl, rfl⟩
    · go_enter Tryz.func16, Tryz.ntmps16
      go_wp2
      go_ret
      exact ⟨by rw [HW.out, if_neg (by omega)]; rfl, rfl⟩
theorem window_any (t w : Int) (W : World) (ht : -9223372036854775808 ≤ t ∧ t ≤ 9223372036854775807) (hw : w ≤ 9223372036854775807) :
    Calls Tryz.prog 16 #[.int .i64 t, .int .i64 w] W fun e w' => e = .returned (.int .i64 (win t w)) ∧ W = w' := by
  by_cases h : w < 1
  · exact window_no t w W h
  · exact window_yes t w W (by omega) ht hw
theorem refWindow_any (t w : Int) (W : World) (ht : -9223372036854775808 ≤ t ∧ t ≤ 9223372036854775807) (hw : w ≤ 9223372036854775807) :
    Calls Tryz.prog 17 #[.int .i64 t, .int .i64 w] W fun e w' => e = .returned (.int .i64 (win t w)) ∧ W = w' := by
  by_cases h : w < 1
  · have hwin : win t w = t := by simp [win, h]
    have HW := Lib.hid hwin
    clear hwin
    go_enter Tryz.func17, Tryz.ntmps17
    go_wp2_with fail
    go_ret
    exact ⟨by rw [HW.out]; rfl, rfl⟩
  · have h1 : 1 ≤ w := by omega
    obtain ⟨h5, h6⟩ := emod_bd t w h1
    have hwin : win t w = if t < -9223372036854775808 + ovr t w then -9223372036854775808 else t - ovr t w := by simp [win, ovr]; omega
    have HO := over_any t w W h1 hw
    have HH := Lib.hid HO
    obtain ⟨m, hm⟩ : ∃ m, ovr t w = m := ⟨_, rfl⟩
    have hm' : t % w = m := hm
    rw [hm'] at h5 h6
    rw [hm] at HH hwin
    have HW := Lib.hid hwin
    clear hwin hm hm' HO
    by_cases hlo : t < -9223372036854775808 + m
    · go_enter Tryz.func17, Tryz.ntmps17
      go_wp2_with fail
      refine HH.out.mono ?_
      rintro e w1 ⟨rfl, rfl⟩
      go_wp2_with fail
      go_ret
      exact ⟨by rw [HW.out, if_pos hlo]; rfl, rfl⟩
    · go_enter Tryz.func17, Tryz.ntmps17
      go_wp2_with fail
      refine HH.out.mono ?_
      rintro e w1 ⟨rfl, rfl⟩
      go_wp2_with fail
      go_ret
      exact ⟨by rw [HW.out, if_neg (by omega)]; rfl, rfl⟩
end Go.Proofs.YtcpnmpemgkbanaaGreatDoor
