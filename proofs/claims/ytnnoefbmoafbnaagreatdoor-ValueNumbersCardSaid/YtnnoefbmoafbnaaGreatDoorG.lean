/- FormatFloat at 1.5. Conditions: the cells of the two tables of powers. -/
import Derived.Test.YtnnoefbmoafbnaaGreatDoorF
import Derived.OwnWalk
namespace Go.Proofs.YtnnoefbmoafbnaaGreatDoor
open Go.RowKit
set_option maxRecDepth 100000
theorem str_of_own {w : World} {base : Nat} {v : Value} (l : List UInt8) (h : w.ownsRow base 5 1 v l.length (Lib.byteCells l)) : (convert 76 9 v).run Tryz.prog w = .ok (.string ⟨l.toArray⟩) w := by
  rcases h.2 with ⟨rfl, h0⟩ | ⟨g, cap, cur, rfl, _⟩
  · have : l = [] := List.length_eq_zero_iff.1 h0
    subst this
    rw [run_convert_bytes_string w 76 9 5 none 0 0 Tryz.underlying76 Tryz.underlying5 Tryz.underlying9]
    rfl
  · refine run_convert_bytes_back w 76 9 5 ⟨g, 0, none⟩ cap l Tryz.underlying76 Tryz.underlying5 Tryz.underlying9 fun j hj => ?_
    have := h.cellAt j (by omega)
    have e : (Addr.add ⟨g, 0, none⟩ j) = ⟨g, j, none⟩ := by unfold Addr.add; split <;> simp_all
    rw [e, this]
    simp [Lib.byteCells, hj]

theorem iform15e (w0 : World) (henv : Env w0) (h8 : 8 < w0.heap.size) : Calls Tryz.prog 30 #[.float .f64 4609434218613702656, .int .u8 101, .int .i64 (-1), .int .i64 64] w0 fun e w' => e = .returned (.string ⟨#[49, 46, 53, 101, 43, 48, 48]⟩) ∧ Below w0.heap.size w0 w' := by
  obtain ⟨i0, hi, hz0, hz1, hz2⟩ := info_parts info5
  have HI := Lib.hid hi
  have HZ0 := Lib.hid hz0
  have HZ1 := Lib.hid hz1
  have HZ2 := Lib.hid hz2
  have HE := Lib.hid henv
  have H8 := Lib.hid h8
  clear hi hz0 hz1 hz2 henv h8
  go_enter Tryz.func30, Tryz.ntmps30
  go_wp2_with (first
    | (refine wpList_make_own w0 rfl _ _ 76 rfl w0.heap.size 5 i0 (.int .u8 0) 1 Tryz.underlying76 HI.out HZ0.out HZ1.out .i64 .i64 24 24 rfl rfl rfl (by rw [HZ2.out]; omega) (by unfold maxLen; omega) (Nat.le_refl _) ?_; intro w1 hown hgrow; have HO1 := Lib.hid hown; have HB1 := Lib.hid ((Below.refl w0.heap.size w0).grown hgrow (Nat.le_refl _) (fun j hj => by cases hj)); have HE1 := Lib.hid (HE.out.later HB1.out H8.out); clear hown hgrow)
    | (go_at_call 43; refine (ftoa15e _ w0.heap.size HO1.out H8.out HE1.out).mono ?_; rintro e w' ⟨rfl, ho, hb⟩; have hcv := str_of_own [49, 46, 53, 101, 43, 48, 48] ho; have HB2 := Lib.hid hb; clear ho hb))
  go_ret
  exact ⟨rfl, HB1.out.trans HB2.out⟩
theorem form15e (w0 : World) (henv : Env w0) (h8 : 8 < w0.heap.size) : Calls Tryz.prog 21 #[.float .f64 4609434218613702656, .int .u8 101, .int .i64 (-1), .int .i64 64] w0 fun e w' => e = .returned (.string ⟨#[49, 46, 53, 101, 43, 48, 48]⟩) ∧ Below w0.heap.size w0 w' := by
  go_enter Tryz.func21, Tryz.ntmps21
  go_wp2_with (go_at_call 30; refine (iform15e _ henv h8).mono ?_; rintro e w' ⟨rfl, hb⟩)
  go_ret
  exact ⟨rfl, hb⟩
theorem iform15f (w0 : World) (henv : Env w0) (h8 : 8 < w0.heap.size) : Calls Tryz.prog 30 #[.float .f64 4609434218613702656, .int .u8 102, .int .i64 (-1), .int .i64 64] w0 fun e w' => e = .returned (.string ⟨#[49, 46, 53]⟩) ∧ Below w0.heap.size w0 w' := by
  obtain ⟨i0, hi, hz0, hz1, hz2⟩ := info_parts info5
  have HI := Lib.hid hi
  have HZ0 := Lib.hid hz0
  have HZ1 := Lib.hid hz1
  have HZ2 := Lib.hid hz2
  have HE := Lib.hid henv
  have H8 := Lib.hid h8
  clear hi hz0 hz1 hz2 henv h8
  go_enter Tryz.func30, Tryz.ntmps30
  go_wp2_with (first
    | (refine wpList_make_own w0 rfl _ _ 76 rfl w0.heap.size 5 i0 (.int .u8 0) 1 Tryz.underlying76 HI.out HZ0.out HZ1.out .i64 .i64 24 24 rfl rfl rfl (by rw [HZ2.out]; omega) (by unfold maxLen; omega) (Nat.le_refl _) ?_; intro w1 hown hgrow; have HO1 := Lib.hid hown; have HB1 := Lib.hid ((Below.refl w0.heap.size w0).grown hgrow (Nat.le_refl _) (fun j hj => by cases hj)); have HE1 := Lib.hid (HE.out.later HB1.out H8.out); clear hown hgrow)
    | (go_at_call 43; refine (ftoa15f _ w0.heap.size HO1.out H8.out HE1.out).mono ?_; rintro e w' ⟨rfl, ho, hb⟩; have hcv := str_of_own [49, 46, 53] ho; have HB2 := Lib.hid hb; clear ho hb))
  go_ret
  exact ⟨rfl, HB1.out.trans HB2.out⟩
theorem form15f (w0 : World) (henv : Env w0) (h8 : 8 < w0.heap.size) : Calls Tryz.prog 21 #[.float .f64 4609434218613702656, .int .u8 102, .int .i64 (-1), .int .i64 64] w0 fun e w' => e = .returned (.string ⟨#[49, 46, 53]⟩) ∧ Below w0.heap.size w0 w' := by
  go_enter Tryz.func21, Tryz.ntmps21
  go_wp2_with (go_at_call 30; refine (iform15f _ henv h8).mono ?_; rintro e w' ⟨rfl, hb⟩)
  go_ret
  exact ⟨rfl, hb⟩
end Go.Proofs.YtnnoefbmoafbnaaGreatDoor