/- Print at 1.5, and awake. Conditions: the cells of the two tables of powers. -/
import Derived.Test.YtnnoefbmoafbnaaGreatDoorJ
namespace Go.Proofs.YtnnoefbmoafbnaaGreatDoor
open Go.RowKit Go.Sort
set_option maxRecDepth 100000
theorem print15 (w : World) (henv : Env w) (h8 : 8 < w.heap.size) : Calls Tryz.prog 10 #[vFl 4609434218613702656] w fun e w' => e = .returned (.tuple #[.string ⟨#[49, 46, 53]⟩, .int .i64 0]) ∧ Below w.heap.size w w' := by
  have h11 : ∀ w, (callFunc 11 #[.int .u64 4609434218613702656]).run Tryz.prog w = .ok (.value (.float .f64 4609434218613702656)) w := fun w => run11 4609434218613702656 w
  have hb2 := ((Below.refl w.heap.size w).alloc (Nat.le_refl _) (cFl 4609434218613702656)).alloc (by simp) (cFl 4609434218613702656)
  have HB2 := Lib.hid hb2
  have HE2 := Lib.hid (henv.later hb2 h8)
  have H8 := Lib.hid (show 8 < ((w.alloc (cFl 4609434218613702656)).alloc (cFl 4609434218613702656)).heap.size by simp; omega)
  have hform := formed15
  have HF := Lib.hid hform
  clear hb2 henv h8 hform
  unfold vFl cFl at *
  go_enter Tryz.func10, Tryz.ntmps10
  go_wp2_with fail
  refine (HF.out _).mono ?_
  rintro e w' ⟨rfl, hw⟩
  subst hw
  go_wp2_with fail
  refine (vfloat15 _ HE2.out H8.out).mono ?_
  rintro e w' ⟨rfl, hb⟩
  go_wp2_with fail
  go_ret2
  exact ⟨rfl, HB2.out.trans (hb.mono (by simp; omega))⟩
theorem awake15 (w : World) (henv : Env w) (h8 : 8 < w.heap.size) : Calls Tryz.prog 4 #[] w fun e w' => e = .returned (.bool true) ∧ Below w.heap.size w w' := by
  have hb1 := (Below.refl w.heap.size w).alloc (Nat.le_refl _) (cFl 4609434218613702656)
  have HB1 := Lib.hid hb1
  have HE1 := Lib.hid (henv.later hb1 h8)
  have H8 := Lib.hid (show 8 < (w.alloc (cFl 4609434218613702656)).heap.size by simp; omega)
  clear hb1 henv h8
  go_enter Tryz.func4, Tryz.ntmps4
  go_wp2_with fail
  refine (of8 _ _).mono ?_
  rintro e w' ⟨rfl, hw⟩
  subst hw
  go_wp2_with fail
  refine (print15 _ HE1.out H8.out).mono ?_
  rintro e w' ⟨rfl, hb⟩
  go_wp2_with fail
  go_ret
  exact ⟨rfl, HB1.out.trans (hb.mono (by simp))⟩
end Go.Proofs.YtnnoefbmoafbnaaGreatDoor
