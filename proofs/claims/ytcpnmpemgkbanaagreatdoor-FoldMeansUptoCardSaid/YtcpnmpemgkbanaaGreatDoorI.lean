/- The walk of the laws' awake. Condition: the table of blanks is as the text lays it. -/
import Derived.Test.YtcpnmpemgkbanaaGreatDoorH
namespace Go.Proofs.YtcpnmpemgkbanaaGreatDoor
open Go.RowKit Go.Sort
theorem uw1 : uw 1 = 1 := by decide
theorem uw2 : uw 2 = 2 := by decide
theorem wsum12 : wsum [1, 2] = 3 := by decide
theorem win110 : win (-1) 10 = -10 := by decide
theorem awake8 (W : World) (htab : Lib.TabIs Tryz.prog W "strings.asciiSpace" .u8 Lib.asciiSpaceTab) :
    Calls Tryz.prog 8 #[] W fun e w' => e = .returned (.bool true) ∧ Below W.heap.size W w' := by
  have HAG := Lib.hid (agg_SUM (W.alloc (.cells #[.int .i64 2, .int .u64 1, .string ⟨#[]⟩, .int .i64 2, .int .u64 2, .string ⟨#[]⟩] 27)) (some ⟨W.heap.size, 0, none⟩) 2 2 [1, 2] rfl
    (by intro v hv; simp at hv; rcases hv with rfl | rfl <;> (unfold inI lo63; omega)) (by omega) (by omega)
    (fun i hi => by
      have h01 : i = 0 ∨ i = 1 := by omega
      rcases h01 with rfl | rfl
      · exact ⟨W.heap.size, 0, 1, rfl, by simp, rfl, by simp, by simp [uw1], by simp⟩
      · exact ⟨W.heap.size, 0, 2, rfl, by simp, rfl, by simp, by simp [uw2], by simp⟩)
    (Lib.tabIs_alloc htab _))
  rw [wsum12] at HAG
  have HWI := Lib.hid (fun w => window_any (-1) 10 w (by omega) (by omega))
  rw [win110] at HWI
  clear htab
  go_enter Tryz.func8, Tryz.ntmps8
  go_wp2_with fail
  refine HAG.out.mono ?_
  rintro e w1 ⟨rfl, hb⟩
  have HB := Lib.hid (show Below W.heap.size W w1 from ((Below.refl _ _).alloc (Nat.le_refl _) _).trans (hb.mono (by simp)))
  clear hb HAG
  go_wp2_with fail
  refine (HWI.out _).mono ?_
  rintro e w2 ⟨rfl, rfl⟩
  go_wp2_with fail
  go_ret
  refine ⟨rfl, ?_⟩
  have := HB.out.alloc HB.out.size
  exact this _
end Go.Proofs.YtcpnmpemgkbanaaGreatDoor
