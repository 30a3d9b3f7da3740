/- Formed and Print at 1.5, and awake. Conditions: the cells of the two tables of powers. -/
import Derived.Test.YtnnoefbmoafbnaaGreatDoorI
namespace Go.Proofs.YtnnoefbmoafbnaaGreatDoor
open Go.RowKit Go.Sort
set_option maxRecDepth 100000
theorem abs15 (w : World) : Calls Tryz.prog 28 #[.float .f64 4609434218613702656] w fun e w' => e = .returned (.float .f64 4609434218613702656) ∧ w = w' := by
  have h7 := run7 4609434218613702656
  have h11 := run11 4609434218613702656
  have b1 : bits BinOp.andNot IntKind.u64 4609434218613702656 9223372036854775808 = 4609434218613702656 := by kernel_rfl
  go_enter Tryz.func28, Tryz.ntmps28
  go_wp2_with fail
  go_ret
  exact ⟨rfl, rfl⟩
theorem isNaN15 (w : World) : Calls Tryz.prog 18 #[.float .f64 4609434218613702656] w fun e w' => e = .returned (.bool false) ∧ w = w' := by
  have h : FloatKind.f64.format.order 4609434218613702656 4609434218613702656 = some .eq := by kernel_rfl
  go_enter Tryz.func18, Tryz.ntmps18
  go_wp2
  go_ret
  exact ⟨rfl, rfl⟩
theorem isInf15 (w : World) : Calls Tryz.prog 19 #[.float .f64 4609434218613702656, .int .i64 0] w fun e w' => e = .returned (.bool false) ∧ w = w' := by
  have h : FloatKind.f64.format.order 4609434218613702656 9218868437227405311 = some .lt := by kernel_rfl
  go_enter Tryz.func19, Tryz.ntmps19
  go_wp2_with (go_at_call 28; refine (abs15 _).mono ?_; rintro e w' ⟨rfl, rfl⟩)
  go_ret
  exact ⟨rfl, rfl⟩
theorem formed15 (w : World) : Calls Tryz.prog 12 #[vFl 4609434218613702656] w fun e w' => e = .returned (.bool true) ∧ w' = w.alloc (cFl 4609434218613702656) := by
  have h11 : ∀ w, (callFunc 11 #[.int .u64 4609434218613702656]).run Tryz.prog w = .ok (.value (.float .f64 4609434218613702656)) w := fun w => run11 4609434218613702656 w
  unfold vFl cFl
  go_enter Tryz.func12, Tryz.ntmps12
  go_wp2_with fail
  refine (isNaN15 _).mono ?_
  rintro e w' ⟨rfl, rfl⟩
  go_wp2_with fail
  refine (isInf15 _).mono ?_
  rintro e w' ⟨rfl, rfl⟩
  go_wp2_with fail
  go_ret
  exact ⟨rfl, rfl⟩
end Go.Proofs.YtnnoefbmoafbnaaGreatDoor
