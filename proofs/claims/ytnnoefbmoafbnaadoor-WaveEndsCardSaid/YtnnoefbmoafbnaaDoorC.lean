/- ftoa64 and FormatFloat of nought. No condition. -/
import Derived.Test.YtnnoefbmoafbnaaDoorB
import Derived.BigQuiet
namespace Go.Proofs.YtnnoefbmoafbnaaDoor
open Go.RowKit
theorem bits47 (b : Nat) (w : World) : (callFunc 47 #[.float .f64 b]).run Tryd.prog w = .ok (.value (.int .u64 b)) w := by
  rw [run_callFunc_extern (e := Extern.MathFloatBits.float64bits) Tryd.func47 (by kernel_rfl) (by kernel_rfl) (by kernel_rfl) (by kernel_rfl)]
  rfl

set_option maxRecDepth 100000 in
theorem ftoa0e (B : Nat) (v0 : Value) (w0 : World) (hown : w0.ownsRow B 5 1 v0 0 []) (hB : B ≤ w0.heap.size) :
    Calls Tryd.prog 35 #[v0, .float .f64 0, .int .u8 101, .int .i64 (-1)] w0 (Row0 B w0 [48, 101, 43, 48, 48]) := by
  have h47 : ∀ w, (callFunc 47 #[.float .f64 0]).run Tryd.prog w = .ok (.value (.int .u64 0)) w := bits47 0
  have HO0 := Lib.hid hown
  have HLE := Lib.hid hB
  clear hown hB
  go_enter Tryd.func35, Tryd.ntmps35
  go_wp2
  go_quiet (fail)
  go_wp2_with (go_at_call 50; go_must (refine (efg0e B _ (w0.drewN nq) HO0.out HLE.out).mono ?_); rintro e w' ⟨v', rfl, ho, hb⟩)
  go_ret
  exact ⟨_, rfl, ho, (below_drewN (Below.refl _ _) _).trans hb⟩
set_option maxRecDepth 100000 in
theorem iform0e (w0 : World) : Calls Tryd.prog 29 #[.float .f64 0, .int .u8 101, .int .i64 (-1), .int .i64 64] w0 fun e w' => e = .returned (.string ⟨#[48, 101, 43, 48, 48]⟩) ∧ Below w0.heap.size w0 w' := by
  obtain ⟨i0, hi, hz0, hz1, hz2⟩ := info_parts info5
  have HI := Lib.hid hi
  have HZ0 := Lib.hid hz0
  have HZ1 := Lib.hid hz1
  have HZ2 := Lib.hid hz2
  clear hi hz0 hz1 hz2
  go_enter Tryd.func29, Tryd.ntmps29
  go_wp2_with (first
    | (refine wpList_make_own w0 rfl _ _ 50 rfl w0.heap.size 5 i0 (.int .u8 0) 1 Tryd.underlying50 HI.out HZ0.out HZ1.out .i64 .i64 24 24 rfl rfl rfl (by rw [HZ2.out]; omega) (by unfold maxLen; omega) (Nat.le_refl _) ?_; intro w1 hown hgrow; have HO1 := Lib.hid hown; have HG1 := Lib.hid hgrow; clear hown hgrow)
    | (go_at_call 35; refine (ftoa0e w0.heap.size _ _ HO1.out HG1.out.size).mono ?_; rintro e w' ⟨v', rfl, ho, hb⟩; have hcv := str_of_own ho; have HB2 := Lib.hid hb; clear ho hb))
  go_ret
  exact ⟨rfl, (((Below.refl _ _).grown HG1.out (Nat.le_refl _) (fun j hj => by cases hj)).trans HB2.out)⟩
theorem form0e (w0 : World) : Calls Tryd.prog 23 #[.float .f64 0, .int .u8 101, .int .i64 (-1), .int .i64 64] w0 fun e w' => e = .returned (.string ⟨#[48, 101, 43, 48, 48]⟩) ∧ Below w0.heap.size w0 w' := by
  go_enter Tryd.func23, Tryd.ntmps23
  go_wp2_with (go_at_call 29; refine (iform0e _).mono ?_; rintro e w' ⟨rfl, hb⟩)
  go_ret
  exact ⟨rfl, hb⟩
set_option maxRecDepth 100000 in
theorem ftoa0f (B : Nat) (v0 : Value) (w0 : World) (hown : w0.ownsRow B 5 1 v0 0 []) (hB : B ≤ w0.heap.size) :
    Calls Tryd.prog 35 #[v0, .float .f64 0, .int .u8 102, .int .i64 (-1)] w0 (Row0 B w0 [48]) := by
  have h47 : ∀ w, (callFunc 47 #[.float .f64 0]).run Tryd.prog w = .ok (.value (.int .u64 0)) w := bits47 0
  have HO0 := Lib.hid hown
  have HLE := Lib.hid hB
  clear hown hB
  go_enter Tryd.func35, Tryd.ntmps35
  go_wp2
  go_quiet (fail)
  go_wp2_with (go_at_call 50; go_must (refine (efg0f B _ (w0.drewN nq) HO0.out HLE.out).mono ?_); rintro e w' ⟨v', rfl, ho, hb⟩)
  go_ret
  exact ⟨_, rfl, ho, (below_drewN (Below.refl _ _) _).trans hb⟩
set_option maxRecDepth 100000 in
theorem iform0f (w0 : World) : Calls Tryd.prog 29 #[.float .f64 0, .int .u8 102, .int .i64 (-1), .int .i64 64] w0 fun e w' => e = .returned (.string ⟨#[48]⟩) ∧ Below w0.heap.size w0 w' := by
  obtain ⟨i0, hi, hz0, hz1, hz2⟩ := info_parts info5
  have HI := Lib.hid hi
  have HZ0 := Lib.hid hz0
  have HZ1 := Lib.hid hz1
  have HZ2 := Lib.hid hz2
  clear hi hz0 hz1 hz2
  go_enter Tryd.func29, Tryd.ntmps29
  go_wp2_with (first
    | (refine wpList_make_own w0 rfl _ _ 50 rfl w0.heap.size 5 i0 (.int .u8 0) 1 Tryd.underlying50 HI.out HZ0.out HZ1.out .i64 .i64 24 24 rfl rfl rfl (by rw [HZ2.out]; omega) (by unfold maxLen; omega) (Nat.le_refl _) ?_; intro w1 hown hgrow; have HO1 := Lib.hid hown; have HG1 := Lib.hid hgrow; clear hown hgrow)
    | (go_at_call 35; refine (ftoa0f w0.heap.size _ _ HO1.out HG1.out.size).mono ?_; rintro e w' ⟨v', rfl, ho, hb⟩; have hcv := str_of_own ho; have HB2 := Lib.hid hb; clear ho hb))
  go_ret
  exact ⟨rfl, (((Below.refl _ _).grown HG1.out (Nat.le_refl _) (fun j hj => by cases hj)).trans HB2.out)⟩
theorem form0f (w0 : World) : Calls Tryd.prog 23 #[.float .f64 0, .int .u8 102, .int .i64 (-1), .int .i64 64] w0 fun e w' => e = .returned (.string ⟨#[48]⟩) ∧ Below w0.heap.size w0 w' := by
  go_enter Tryd.func23, Tryd.ntmps23
  go_wp2_with (go_at_call 29; refine (iform0f _).mono ?_; rintro e w' ⟨rfl, hb⟩)
  go_ret
  exact ⟨rfl, hb⟩
end Go.Proofs.YtnnoefbmoafbnaaDoor