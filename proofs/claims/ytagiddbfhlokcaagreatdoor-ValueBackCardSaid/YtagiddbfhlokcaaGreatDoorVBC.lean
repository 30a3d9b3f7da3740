/- Several texts of this proof, laid together. Conditions: as each says. -/
import Derived.Test.YtagiddbfhlokcaaGreatDoorVBB
import Derived.Laws.RangeAny
import Derived.Laws.Runes
import Derived.Lib.DecodeN
import Derived.Lib.IndexAny
import Derived.WalkMore
import Derived.Lib.OthersKept
import Derived.Test.YtagiddbfhlokcaaGreatDoorVAM
import Derived.Test.YtagiddbfhlokcaaGreatDoorVAD
import Derived.Test.YtagiddbfhlokcaaGreatDoorVAC
import Derived.Lib.AtoiErrMem
/- strings.IndexAny at a comma and a blank, whatever the bytes; a value's text cut off a line. Condition: the text's length. -/
namespace Go.Proofs.YtagiddbfhlokcaaGreatDoor.Ser
open Go.RowKit Go.Sort
set_option maxRecDepth 100000
end Go.Proofs.YtagiddbfhlokcaaGreatDoor.Ser
/- A value's text cut off a line, by the program and by the reference. Condition: the text's length. -/
namespace Go.Proofs.YtagiddbfhlokcaaGreatDoor.Ser
open Go.RowKit Go.Sort
set_option maxRecDepth 100000
theorem take_bs (l : List UInt8) (k : Nat) : (bs l).extract 0 k = bs (l.take k) := by
  apply ByteArray.ext
  apply Array.toList_inj.1
  rw [Lib.extract_data, bs_list, bs_list]
  simp
theorem drop_bs (l : List UInt8) (k : Nat) : (bs l).extract k (bs l).size = bs (l.drop k) := by
  apply ByteArray.ext
  apply Array.toList_inj.1
  rw [Lib.extract_data, bs_list, bs_list, bs_size]
  rw [List.take_of_length_le (by simp)]
end Go.Proofs.YtagiddbfhlokcaaGreatDoor.Ser
/- The text of 1.5. Conditions: the cells of the two tables of powers. -/
namespace Go.Proofs.YtagiddbfhlokcaaGreatDoor.One
open Go.RowKit
theorem index0 (w : World) : Calls Tryz.prog 185 #[.string ⟨#[49, 46, 53, 101, 43, 48, 48]⟩, .string ⟨#[101]⟩] w fun e w' => e = .returned (.int .i64 3) ∧ w' = w := by
  have h := Tryz.stringslite_Index_one ⟨#[49, 46, 53, 101, 43, 48, 48]⟩ 101 w
  have e : Lib.indexByte (ByteArray.mk #[49, 46, 53, 101, 43, 48, 48]).data.toList 101 = 3 := by decide
  rw [e] at h
  exact h
theorem scut0 (w : World) : Calls Tryz.prog 149 #[.string ⟨#[49, 46, 53, 101, 43, 48, 48]⟩, .string ⟨#[101]⟩] w fun e w' => e = .returned (.tuple #[.string ⟨#[49, 46, 53]⟩, .string ⟨#[43, 48, 48]⟩, .bool true]) ∧ ∃ n, w' = w.drewN n := by
  go_enter Tryz.func149, Tryz.ntmps149
  go_wp2_with (go_at_call 185; refine (index0 _).mono ?_; rintro e w' ⟨rfl, rfl⟩)
  go_quiet (fail)
  go_wp2
  go_ret3
  exact ⟨rfl, _, rfl⟩
theorem cut0 (w : World) : Calls Tryz.prog 100 #[.string ⟨#[49, 46, 53, 101, 43, 48, 48]⟩, .string ⟨#[101]⟩] w fun e w' => e = .returned (.tuple #[.string ⟨#[49, 46, 53]⟩, .string ⟨#[43, 48, 48]⟩, .bool true]) ∧ ∃ n, w' = w.drewN n := by
  go_enter Tryz.func100, Tryz.ntmps100
  go_wp2_with (go_at_call 149; refine (scut0 _).mono ?_; rintro e w' ⟨rfl, n, rfl⟩)
  go_ret3
  exact ⟨rfl, _, rfl⟩
theorem atoi0 (w : World) : Calls Tryz.prog 102 #[.string ⟨#[43, 48, 48]⟩] w fun e w' => e = .returned (.tuple #[.int .i64 0, .nilIface]) ∧ Below w.heap.size w w' := by
  refine (Tryz.strconv_Atoi ⟨#[43, 48, 48]⟩ 0 (by decide) (by decide) w).mono ?_
  rintro e w' ⟨rfl, t, rfl⟩
  exact ⟨rfl, Lib.bytesWorld_below _ _ _⟩
theorem vfloat15 (w : World) (henv : Env w) (h8 : 15 < w.heap.size) : Calls Tryz.prog 65 #[.float .f64 4609434218613702656] w fun e w' => e = .returned (.string ⟨#[49, 46, 53]⟩) ∧ Below w.heap.size w w' := by
  go_enter Tryz.func65, Tryz.ntmps65
  go_wp2_with fail
  refine (form15e _ henv h8).mono ?_
  rintro e w1 ⟨rfl, hb1⟩
  go_wp2_with fail
  refine (cut0 _).mono ?_
  rintro e w2 ⟨rfl, n, rfl⟩
  go_wp2_with fail
  refine (atoi0 _).mono ?_
  rintro e w3 ⟨rfl, hb3⟩
  go_wp2_with fail
  refine (form15f _ (((henv.later hb1 h8).later (below_drewN (Below.refl w1.heap.size w1) n) (Nat.lt_of_lt_of_le h8 hb1.size)).later hb3 (Nat.lt_of_lt_of_le h8 hb1.size)) (Nat.lt_of_lt_of_le h8 (Nat.le_trans hb1.size hb3.size))).mono ?_
  rintro e w4 ⟨rfl, hb4⟩
  go_wp2_with fail
  go_ret
  exact ⟨rfl, ((below_drewN hb1 n).trans (hb3.mono (below_drewN hb1 n).size)).trans (hb4.mono ((below_drewN hb1 n).trans (hb3.mono (below_drewN hb1 n).size)).size)⟩
end Go.Proofs.YtagiddbfhlokcaaGreatDoor.One
