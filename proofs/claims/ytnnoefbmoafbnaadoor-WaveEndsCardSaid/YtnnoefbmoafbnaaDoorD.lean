/- The text of nought, of the program and of the reference. No condition. -/
import Derived.Test.YtnnoefbmoafbnaaDoorC
import Derived.Test.YtnnoefbmoafbnaaDoorShelf
import Derived.Lib.AtoiErrMem
namespace Go.Proofs.YtnnoefbmoafbnaaDoor
open Go.RowKit
theorem index0 (w : World) : Calls Tryd.prog 33 #[.string ⟨#[48, 101, 43, 48, 48]⟩, .string ⟨#[101]⟩] w fun e w' => e = .returned (.int .i64 1) ∧ w' = w := by
  have h := Tryd.stringslite_Index_one ⟨#[48, 101, 43, 48, 48]⟩ 101 w
  have e : Lib.indexByte (ByteArray.mk #[48, 101, 43, 48, 48]).data.toList 101 = 1 := by decide
  rw [e] at h
  exact h
theorem scut0 (w : World) : Calls Tryd.prog 28 #[.string ⟨#[48, 101, 43, 48, 48]⟩, .string ⟨#[101]⟩] w fun e w' => e = .returned (.tuple #[.string ⟨#[48]⟩, .string ⟨#[43, 48, 48]⟩, .bool true]) ∧ ∃ n, w' = w.drewN n := by
  go_enter Tryd.func28, Tryd.ntmps28
  go_wp2_with (go_at_call 33; refine (index0 _).mono ?_; rintro e w' ⟨rfl, rfl⟩)
  go_quiet (fail)
  go_wp2
  go_ret3
  exact ⟨rfl, _, rfl⟩
theorem cut0 (w : World) : Calls Tryd.prog 22 #[.string ⟨#[48, 101, 43, 48, 48]⟩, .string ⟨#[101]⟩] w fun e w' => e = .returned (.tuple #[.string ⟨#[48]⟩, .string ⟨#[43, 48, 48]⟩, .bool true]) ∧ ∃ n, w' = w.drewN n := by
  go_enter Tryd.func22, Tryd.ntmps22
  go_wp2_with (go_at_call 28; refine (scut0 _).mono ?_; rintro e w' ⟨rfl, n, rfl⟩)
  go_ret3
  exact ⟨rfl, _, rfl⟩
theorem atoi0 (w : World) : Calls Tryd.prog 24 #[.string ⟨#[43, 48, 48]⟩] w fun e w' => e = .returned (.tuple #[.int .i64 0, .nilIface]) ∧ Below w.heap.size w w' := by
  refine (Tryd.strconv_Atoi ⟨#[43, 48, 48]⟩ 0 (by decide) (by decide) w).mono ?_
  rintro e w' ⟨rfl, t, rfl⟩
  exact ⟨rfl, Lib.bytesWorld_below _ _ _⟩
theorem vfloat0 (w : World) : Calls Tryd.prog 19 #[.float .f64 0] w fun e w' => e = .returned (.string ⟨#[48]⟩) ∧ Below w.heap.size w w' := by
  go_enter Tryd.func19, Tryd.ntmps19
  go_wp2_with fail
  refine (form0e _).mono ?_
  rintro e w1 ⟨rfl, hb1⟩
  go_wp2_with fail
  refine (cut0 _).mono ?_
  rintro e w2 ⟨rfl, n, rfl⟩
  go_wp2_with fail
  refine (atoi0 _).mono ?_
  rintro e w3 ⟨rfl, hb3⟩
  go_wp2_with fail
  refine (form0f _).mono ?_
  rintro e w4 ⟨rfl, hb4⟩
  go_wp2_with fail
  go_ret
  exact ⟨rfl, ((below_drewN hb1 n).trans (hb3.mono (below_drewN hb1 n).size)).trans (hb4.mono ((below_drewN hb1 n).trans (hb3.mono (below_drewN hb1 n).size)).size)⟩
theorem noughts0 (w : World) : Calls Tryd.prog 26 #[.int .i64 0] w fun e w' => e = .returned (.string ⟨#[]⟩) ∧ w' = w := by
  go_enter Tryd.func26, Tryd.ntmps26
  go_wp2
  go_loopw [3, 5] (fun v i wr => v = .string ⟨#[]⟩ ∧ i = .int .i64 0 ∧ wr = w) (fun _ _ _ => 0)
  case atStart => exact ⟨rfl, rfl, rfl⟩
  case round =>
    obtain ⟨rfl, rfl, rfl⟩ := hrel
    go_wp2
    go_ret
    exact ⟨rfl, rfl⟩
theorem rfloat0 (w : World) : Calls Tryd.prog 20 #[.float .f64 0] w fun e w' => e = .returned (.string ⟨#[48]⟩) ∧ Below w.heap.size w w' := by
  go_enter Tryd.func20, Tryd.ntmps20
  go_wp2_with fail
  refine (form0e _).mono ?_
  rintro e w1 ⟨rfl, hb1⟩
  go_wp2_with fail
  go_loopw [5] (fun i wr => (i = .int .i64 0 ∨ i = .int .i64 1) ∧ wr = w1) (fun i _ => 1 - (intOf i).toNat)
  case atStart => exact ⟨.inl rfl, rfl⟩
  case round =>
    obtain ⟨h, rfl⟩ := hrel
    rcases h with rfl | rfl
    · go_wp2
      go_roundw
      case rel => exact ⟨.inr (by go_num), trivial⟩
      case measure => simp [intOf]
    · go_wp2_with fail
      refine (atoi0 _).mono ?_
      rintro e w3 ⟨rfl, hb3⟩
      go_wp2_with fail
      refine (noughts0 _).mono ?_
      rintro e w4 ⟨rfl, rfl⟩
      go_wp2_with fail
      go_ret
      exact ⟨rfl, hb1.trans (hb3.mono hb1.size)⟩
end Go.Proofs.YtnnoefbmoafbnaaDoor
