/- Several texts of this proof, laid together. Conditions: as each says. -/
import Derived.Test.YtagiddbfhlokcaaGreatDoorMAY
import Derived.Test.YtagiddbfhlokcaaGreatDoorMAK
import Derived.Test.YtagiddbfhlokcaaGreatDoorMBC
import Derived.Test.YtagiddbfhlokcaaGreatDoorMAM
import Derived.Lib.QuietBelow
/- value.Float at any float. Conditions: the tables of powers. -/
namespace Go.Proofs.YtagiddbfhlokcaaGreatDoor.Ff
open Go.RowKit Go.Sort
set_option maxRecDepth 100000
theorem scut_149 (a r : List UInt8) (ha : a.all PF.isNum = true) (hl : a.length + r.length ≤ 1000) (w : World) : Calls Tryz.prog 149 #[.string (bs (a ++ 101 :: r)), .string ⟨#[101]⟩] w fun e w' => e = .returned (.tuple #[.string (bs a), .string (bs r), .bool true]) ∧ ∃ n, w' = w.drewN n := by
  have M := Lib.hid (fun w => Tryz.stringslite_Index_one (bs (a ++ 101 :: r)) 101 w)
  rw [bs_list, PF.index_e a r ha] at M
  have t1 := Ser.take_bs (a ++ 101 :: r) a.length
  have t2 := Ser.drop_bs (a ++ 101 :: r) (a.length + 1)
  rw [List.take_left] at t1
  have e2 : (a ++ 101 :: r).drop (a.length + 1) = r := by rw [List.drop_append]; simp
  rw [e2] at t2
  have hsz := bs_size (a ++ 101 :: r)
  rw [List.length_append, List.length_cons] at hsz
  obtain ⟨S, hS⟩ : ∃ S, bs (a ++ 101 :: r) = S := ⟨_, rfl⟩
  obtain ⟨k, hk⟩ : ∃ k, a.length = k := ⟨_, rfl⟩
  obtain ⟨j, hj⟩ : ∃ j, r.length = j := ⟨_, rfl⟩
  rw [hk, hj] at hsz hl
  rw [hk] at t1 t2 M
  rw [hS] at t1 t2 M hsz ⊢
  rw [hsz] at t2
  clear hS e2 hk hj ha
  go_enter Tryz.func149, Tryz.ntmps149
  go_wp2_with (go_at_call 185; refine (M.out _).mono ?_; rintro e w' ⟨rfl, rfl⟩)
  go_quiet (fail)
  go_wp2
  go_ret3
  exact ⟨rfl, _, rfl⟩
theorem cut_100 (a r : List UInt8) (ha : a.all PF.isNum = true) (hl : a.length + r.length ≤ 1000) (w : World) : Calls Tryz.prog 100 #[.string (bs (a ++ 101 :: r)), .string ⟨#[101]⟩] w fun e w' => e = .returned (.tuple #[.string (bs a), .string (bs r), .bool true]) ∧ ∃ n, w' = w.drewN n := by
  have M := Lib.hid (scut_149 a r ha hl w)
  clear ha hl
  go_enter Tryz.func100, Tryz.ntmps100
  go_wp2_with (go_at_call 149; refine M.out.mono ?_; rintro e w' ⟨rfl, n, rfl⟩)
  go_ret3
  exact ⟨rfl, _, rfl⟩
/-- The exponent's text and Atoi. -/
theorem atoi_102 {X : Int} (h1 : -999 ≤ X) (h2 : X ≤ 999) (w : World) : Calls Tryz.prog 102 #[.string (bs ((if X < 0 then 45 else 43) :: PF.expT X.natAbs))] w fun e w' => e = .returned (.tuple #[.int .i64 X, .nilIface]) ∧ Below w.heap.size w w' := by
  have hl := PF.exp_len X.natAbs
  refine (Tryz.strconv_Atoi (bs ((if X < 0 then 45 else 43) :: PF.expT X.natAbs)) X (by rw [bs_size, List.length_cons]; omega) (by rw [bs_list]; exact PF.atoi_exp h1 h2) w).mono ?_
  rintro e w' ⟨rfl, t, rfl⟩
  exact ⟨rfl, Lib.bytesWorld_below _ _ _⟩
theorem grow_bel (w : World) (k : Nat) (os : Array Obj) : Below w.heap.size w (grow (w.drewN k) os) := by
  refine ⟨rfl, rfl, rfl, by simp [grow], fun i hi => ?_⟩
  simp only [grow]
  rw [Array.getElem?_append_left (by simpa using hi)]
  rfl
theorem itoa_103 {X : Int} (h1 : -999 ≤ X) (h2 : X ≤ 999) (w : World) (htab : Lib.TabIs Tryz.prog w "internal/strconv.uint64pow10" .u64 Lib.pow10Tab) : Calls Tryz.prog 103 #[.int .i64 X] w fun e w' => e = .returned (.string (bs (Lib.itoa X))) ∧ Below w.heap.size w w' := by
  refine (Tryz.strconv_Itoa X (by omega) (by omega) w htab).mono ?_
  rintro e w' ⟨rfl, k, os, rfl⟩
  exact ⟨rfl, grow_bel _ _ _⟩
theorem join3 (a b : List UInt8) : bs a ++ ⟨#[101]⟩ ++ bs b = bs (a ++ 101 :: b) := by
  apply ByteArray.ext
  apply Array.toList_inj.1
  simp [bs]
/-- value.Float. -/
theorem float_65 (T : Nat → Nat × Nat) (hT : TabLt T) (hP : PF.TabPow (tabF T)) (x : Nat) (hx : x < 18446744073709551616) (hfin : PF.Fin x) (w0 : World) (henv : FEnv T w0) (h8 : 15 < w0.heap.size) :
    Calls Tryz.prog 65 #[.float .f64 x] w0 fun e w' => e = .returned (.string (bs (PF.flText (tabF T) x))) ∧ Below w0.heap.size w0 w' := by
  have ME := Lib.hid (fun w h h8 => form_e T hT hP x hx hfin w h h8)
  have MF := Lib.hid (fun w h h8 => form_f T hT hP x hx hfin w h h8)
  obtain ⟨d1, d2, d3, d4, d5, d6⟩ := PF.fDec_any hP (r := x % 9223372036854775808) hfin
  unfold PF.flText
  unfold txE at ME
  unfold txF at MF
  obtain ⟨D, hD⟩ : ∃ D, (PF.fDec (tabF T) (x % 9223372036854775808)).1 = D := ⟨_, rfl⟩
  obtain ⟨dp, hdp⟩ : ∃ D, (PF.fDec (tabF T) (x % 9223372036854775808)).2 = D := ⟨_, rfl⟩
  obtain ⟨neg, hneg⟩ : ∃ b, decide (9223372036854775808 ≤ x) = b := ⟨_, rfl⟩
  rw [hD] at d1 d2 d5 ME MF ⊢
  rw [hdp] at d3 d4 d5 ME MF ⊢
  rw [hneg] at ME MF ⊢
  obtain ⟨X, hX⟩ : ∃ X, PF.fX D dp = X := ⟨_, rfl⟩
  have hX1 : -999 ≤ X ∧ X ≤ 999 := by rw [← hX]; unfold PF.fX; split <;> omega
  obtain ⟨A, hA⟩ : ∃ A, PF.fmtM neg D = A := ⟨_, rfl⟩
  have hnum := PF.fmtM_num neg d1
  have hAl := PF.fmtM_len neg D
  have hxl := PF.exp_len X.natAbs
  unfold PF.fmtE at ME
  rw [hX, hA] at ME
  rw [hA] at hnum hAl
  have hl2 := PF.itoa_len hX1.1 hX1.2
  have MC := Lib.hid (fun w => cut_100 A ((if X < 0 then 45 else 43) :: PF.expT X.natAbs) hnum (by rw [List.length_cons]; omega) w)
  have MA := Lib.hid (fun w => atoi_102 hX1.1 hX1.2 w)
  have sA : (bs A).size ≤ 30 := by rw [bs_size]; omega
  have sI : (bs (Lib.itoa X)).size ≤ 4 := by rw [bs_size]; omega
  have MI := Lib.hid (fun w h => itoa_103 hX1.1 hX1.2 w h)
  obtain ⟨E, hE⟩ : ∃ E, ((if X < 0 then 45 else 43) :: PF.expT X.natAbs : List UInt8) = E := ⟨_, rfl⟩
  rw [hE] at ME MC MA
  obtain ⟨R, hR⟩ : ∃ R, PF.flTx neg D dp = R := ⟨_, rfl⟩
  have HR := Lib.hid hR
  unfold PF.flTx at HR
  rw [hX, hA] at HR
  rw [hR]
  have HE := Lib.hid henv
  have H8 := Lib.hid h8
  have HX1 := Lib.hid hX1
  clear d1 d2 d3 d4 d5 d6 hD hdp hneg hX hA hnum hxl hE hR hT hP hfin henv h8 hX1
  go_enter Tryz.func65, Tryz.ntmps65
  go_wp2_with fail
  refine (ME.out _ HE.out H8.out).mono ?_
  rintro e w1 ⟨rfl, hb1⟩
  have HB1 := Lib.hid hb1
  clear hb1
  go_wp2_with fail
  refine (MC.out _).mono ?_
  rintro e w2 ⟨rfl, n, rfl⟩
  have HB2 := Lib.hid (below_drewN HB1.out n)
  go_wp2_with fail
  refine (MA.out _).mono ?_
  rintro e w3 ⟨rfl, hb3⟩
  have HB3 := Lib.hid (HB2.out.trans (hb3.mono HB2.out.size))
  have HE3 := Lib.hid (HE.out.later HB3.out H8.out)
  clear hb3
  by_cases hr : -4 ≤ X ∧ X ≤ 15
  · obtain ⟨r1, r2⟩ := hr
    go_wp2_with fail
    refine (MF.out _ HE3.out (Nat.lt_of_lt_of_le H8.out HB3.out.size)).mono ?_
    rintro e w4 ⟨rfl, hb4⟩
    have HB4 := Lib.hid (HB3.out.trans (hb4.mono HB3.out.size))
    clear hb4
    go_wp2_with fail
    go_ret
    have h1 := HR.out
    rw [if_pos ⟨r1, r2⟩] at h1
    rw [← h1]
    exact ⟨rfl, HB4.out⟩
  · have hr2 : X < -4 ∨ -4 ≤ X ∧ 15 < X := by omega
    clear hr
    rcases hr2 with hr | ⟨hr, hr3⟩
    all_goals
      go_wp2_with fail
      refine (MI.out _ HE3.out.tab).mono ?_
      rintro e w4 ⟨rfl, hb4⟩
      have HB4 := Lib.hid (HB3.out.trans (hb4.mono HB3.out.size))
      clear hb4
      go_wp2_with fail
      go_ret
      have h1 := HR.out
      rw [if_neg (by omega)] at h1
      rw [← h1]
      exact ⟨congrArg (fun z => Ending.returned (Value.string z)) (join3 A (Lib.itoa X)), HB4.out⟩
end Go.Proofs.YtagiddbfhlokcaaGreatDoor.Ff
/- The reference's text of a float. Conditions: the tables of powers. -/
namespace Go.Proofs.YtagiddbfhlokcaaGreatDoor.Ff
open Go.RowKit Go.Sort
set_option maxRecDepth 100000
theorem bs_app (a b : List UInt8) : bs a ++ bs b = bs (a ++ b) := by
  apply ByteArray.ext
  apply Array.toList_inj.1
  simp [bs]
end Go.Proofs.YtagiddbfhlokcaaGreatDoor.Ff
/- The reference's text of a string. Condition: its length. -/
namespace Go.Proofs.YtagiddbfhlokcaaGreatDoor.Ff
open Go.RowKit Go.Sort
set_option maxRecDepth 100000
end Go.Proofs.YtagiddbfhlokcaaGreatDoor.Ff
