/- Several texts of this proof, laid together. Conditions: as each says. -/
import Derived.Test.YtagiddbfhlokcaaGreatDoorBBE
import Derived.Deep.RegionLaw
import Derived.OwnWalk
import Derived.Test.YtagiddbfhlokcaaGreatDoorBAB
import Derived.Lib.AtoiErrMem
import Derived.Test.YtagiddbfhlokcaaGreatDoorBAP
import Derived.Test.YtagiddbfhlokcaaGreatDoorBBD
import Derived.Test.YtagiddbfhlokcaaGreatDoorBAS
import Derived.WalkKit
import Derived.ProofKit
import Derived.Below
/- ftoa64 at 1.5. Conditions: the cells of the two tables of powers. -/
namespace Go.Proofs.YtagiddbfhlokcaaGreatDoor.One
open Go.RowKit Go.Sort
set_option maxRecDepth 100000
structure Env (w : World) : Prop where
  pow : Pow w
  tab : Lib.TabIs Tryz.prog w "internal/strconv.uint64pow10" .u64 Lib.pow10Tab
theorem Env.later {w w' : World} {B : Nat} (h : Env w) (hb : Below B w w') (h8 : 15 < B) : Env w' := by
  refine ⟨⟨(hb.cell (p := ⟨15, 728, none⟩) h8).trans h.pow.1, (hb.cell (p := ⟨15, 729, none⟩) h8).trans h.pow.2⟩, ?_⟩
  have ht := h.tab
  have hg : Tryz.prog.globalNamed "internal/strconv.uint64pow10" = some 1 := by kernel_rfl
  unfold Lib.TabIs World.var? at ht ⊢
  rw [hg] at ht ⊢
  simp only [Option.bind_some] at ht ⊢
  rw [hb.block 1 (by omega)]
  exact ht
theorem Env.drew {w : World} (h : Env w) : Env w.drew := ⟨⟨h.pow.1, h.pow.2⟩, h.tab⟩
theorem bits65 (w : World) : (callFunc 219 #[.float .f64 4609434218613702656]).run Tryz.prog w = .ok (.value (.int .u64 4609434218613702656)) w := by
  rw [run_callFunc_extern (e := Extern.MathFloatBits.float64bits) Tryz.func219 (by kernel_rfl) (by kernel_rfl) (by kernel_rfl) (by kernel_rfl)]
  rfl
theorem len15 (w : World) : Calls Tryz.prog 132 #[.int .u64 6755399441055744] w fun e w' => e = .returned (.int .i64 53) ∧ w = w' := by
  refine (Tryz.bits_Len64 6755399441055744 w (by omega) (by omega)).mono ?_
  rintro e w' ⟨rfl, h⟩
  exact ⟨by rw [show Lib.bitLen (Int.toNat 6755399441055744) = 53 by decide +kernel]; rfl, h.symm⟩
theorem num15 (w : World) (h : Env w) : Calls Tryz.prog 111 #[.int .u64 1500000000000000] w fun e w' => e = .returned (.int .i64 16) ∧ w = w' := by
  refine (Tryz.internal_strconv_numDigits 1500000000000000 (by omega) (by omega) w h.tab).mono ?_
  rintro e w' ⟨rfl, h⟩
  exact ⟨by rw [show Lib.nDigits 1500000000000000 = 16 by decide +kernel]; rfl, h.symm⟩
def zeros32 : Array Value := #[.int .u8 0, .int .u8 0, .int .u8 0, .int .u8 0, .int .u8 0, .int .u8 0, .int .u8 0, .int .u8 0, .int .u8 0, .int .u8 0, .int .u8 0, .int .u8 0, .int .u8 0, .int .u8 0, .int .u8 0, .int .u8 0, .int .u8 0, .int .u8 0, .int .u8 0, .int .u8 0, .int .u8 0, .int .u8 0, .int .u8 0, .int .u8 0, .int .u8 0, .int .u8 0, .int .u8 0, .int .u8 0, .int .u8 0, .int .u8 0, .int .u8 0, .int .u8 0]
theorem holds_zeros (w : World) (b : Nat) (h : w.heap[b]? = some (.cells zeros32 281 (0, 0))) : Holds encB w b 0 (Array.replicate 16 0) := by
  intro j hj
  have hj' : j < 16 := by simpa using hj
  refine ⟨?_, Lib.frozen_of_heap h _⟩
  rw [Lib.cell_of_heap h]
  have e : zeros32 = Array.replicate 32 (.int .u8 0) := rfl
  rw [e, Array.getElem?_replicate, if_pos (by omega)]
  simp [encB, hj']
theorem own_later {w w' : World} {base e size n cap g : Nat} {xs : List Value} (h : w.ownsRow base e size (.slice (some ⟨g, 0, none⟩) n cap) n xs) (hb : Below w.heap.size w w') : w'.ownsRow base e size (.slice (some ⟨g, 0, none⟩) n cap) n xs :=
  h.kept (row := none) ⟨hb.os, hb.tape, hb.output, hb.size, fun k hk _ => hb.block k hk⟩ (.inr (by simp [Value.ownBlock]))
theorem ftoa15e (w0 : World) (g : Nat) (hown : w0.ownsRow g 5 1 (.slice (some ⟨g, 0, none⟩) 0 24) 0 []) (hg : 15 < g) (henv : Env w0) :
    Calls Tryz.prog 187 #[.slice (some ⟨g, 0, none⟩) 0 24, .float .f64 4609434218613702656, .int .u8 101, .int .i64 (-1)] w0 fun e w' => e = .returned (.slice (some ⟨g, 0, none⟩) 7 24) ∧ w'.ownsRow g 5 1 (.slice (some ⟨g, 0, none⟩) 7 24) 7 (Lib.byteCells [49, 46, 53, 101, 43, 48, 48]) ∧ Below g w0 w' := by
  have h65 := bits65
  have b1 : bits BinOp.and IntKind.u64 4609434218613702656 4503599627370495 = 2251799813685248 := by kernel_rfl
  have b2 : bits BinOp.or IntKind.u64 2251799813685248 4503599627370496 = 6755399441055744 := by kernel_rfl
  have mm4 : max (1 : Int) 0 = 1 := by decide
  have b3 : bits BinOp.and IntKind.i64 1023 2047 = 1023 := by kernel_rfl
  have hgs := (hown.lt g rfl).2
  have hbA := fun n => (below_drewN (Below.refl w0.heap.size w0) n).alloc (Nat.le_refl _) (.cells zeros32 281)
  have henvA := fun n => henv.later (hbA n) (by omega)
  have hzA : ∀ n, ((w0.drewN n).alloc (.cells zeros32 281)).heap[w0.heap.size]? = some (.cells zeros32 281 (0, 0)) := fun n => heap_alloc_new (w0.drewN n) _
  have HBA := Lib.hid hbA
  have HEA := Lib.hid henvA
  have HZA := Lib.hid hzA
  have HG := Lib.hid hgs
  clear hbA henvA hzA hgs
  have HO := Lib.hid hown
  have HE := Lib.hid henv
  clear hown henv
  go_enter Tryz.func187, Tryz.ntmps187
  go_wp2
  go_quiet (fail)
  go_wp2_with fail
  refine (len15 _).mono ?_
  rintro e w1 ⟨rfl, rfl⟩
  go_wp2_with fail
  refine (short15 _ (HEA.out nq).pow (by have := HG.out; simp; omega)).mono ?_
  rintro e w2 ⟨rfl, hb2⟩
  have HB2 := Lib.hid ((HBA.out nq).trans (hb2.mono (by simp)))
  have HZ2 := Lib.hid ((hb2.block w0.heap.size (by simp)).trans (HZA.out nq))
  have HB2S := Lib.hid hb2
  have HE2 := Lib.hid ((HEA.out nq).later hb2 (by have := HG.out; simp; omega))
  have HG8 := Lib.hid (show 15 < ((w0.drewN nq).alloc (.cells zeros32 281)).heap.size by have := HG.out; simp; omega)
  have HH := Lib.hid (holds_zeros w2.drew w0.heap.size HZ2.out)
  clear hb2
  go_wp2_with fail
  go_region_law (first
    | (go_simp; go_at_call 111; refine (num15 _ (HE2.out.drew)).mono ?_; rintro e w' ⟨rfl, rfl⟩)
    | (go_simp; go_at_call 224; refine (setDigits15 _ _ HH.out).mono ?_; rintro e w3 ⟨rfl, hc, hb3⟩))
  have hb4 : Below w0.heap.size w0 w3 := HB2.out.trans (show Below w0.heap.size w2 w3 from ⟨hb3.os, hb3.tape, hb3.output, hb3.size, hb3.block⟩)
  have hsz : w0.heap.size < w3.heap.size := by have h1 := HB2S.out.size; have h2 := hb3.size; simp at h1 h2; omega
  have HST := Lib.hid (show St w0 g w0.heap.size [] w3 from ⟨own_later HO.out hb4, hc.1, hc.2, hb4.mono (Nat.le_of_lt HG.out), HG.out, hsz⟩)
  clear hc hb3 hb4 hsz
  go_wp2_with (go_at_call 222; go_must (refine (efg15e _ _ _ _ HST.out).mono ?_); rintro e w4 ⟨rfl, h4⟩)
  go_ret
  exact ⟨rfl, h4.own, h4.bel⟩
theorem ftoa15f (w0 : World) (g : Nat) (hown : w0.ownsRow g 5 1 (.slice (some ⟨g, 0, none⟩) 0 24) 0 []) (hg : 15 < g) (henv : Env w0) :
    Calls Tryz.prog 187 #[.slice (some ⟨g, 0, none⟩) 0 24, .float .f64 4609434218613702656, .int .u8 102, .int .i64 (-1)] w0 fun e w' => e = .returned (.slice (some ⟨g, 0, none⟩) 3 24) ∧ w'.ownsRow g 5 1 (.slice (some ⟨g, 0, none⟩) 3 24) 3 (Lib.byteCells [49, 46, 53]) ∧ Below g w0 w' := by
  have h65 := bits65
  have b1 : bits BinOp.and IntKind.u64 4609434218613702656 4503599627370495 = 2251799813685248 := by kernel_rfl
  have b2 : bits BinOp.or IntKind.u64 2251799813685248 4503599627370496 = 6755399441055744 := by kernel_rfl
  have mm4 : max (1 : Int) 0 = 1 := by decide
  have b3 : bits BinOp.and IntKind.i64 1023 2047 = 1023 := by kernel_rfl
  have hgs := (hown.lt g rfl).2
  have hbA := fun n => (below_drewN (Below.refl w0.heap.size w0) n).alloc (Nat.le_refl _) (.cells zeros32 281)
  have henvA := fun n => henv.later (hbA n) (by omega)
  have hzA : ∀ n, ((w0.drewN n).alloc (.cells zeros32 281)).heap[w0.heap.size]? = some (.cells zeros32 281 (0, 0)) := fun n => heap_alloc_new (w0.drewN n) _
  have HBA := Lib.hid hbA
  have HEA := Lib.hid henvA
  have HZA := Lib.hid hzA
  have HG := Lib.hid hgs
  clear hbA henvA hzA hgs
  have HO := Lib.hid hown
  have HE := Lib.hid henv
  clear hown henv
  go_enter Tryz.func187, Tryz.ntmps187
  go_wp2
  go_quiet (fail)
  go_wp2_with fail
  refine (len15 _).mono ?_
  rintro e w1 ⟨rfl, rfl⟩
  go_wp2_with fail
  refine (short15 _ (HEA.out nq).pow (by have := HG.out; simp; omega)).mono ?_
  rintro e w2 ⟨rfl, hb2⟩
  have HB2 := Lib.hid ((HBA.out nq).trans (hb2.mono (by simp)))
  have HZ2 := Lib.hid ((hb2.block w0.heap.size (by simp)).trans (HZA.out nq))
  have HB2S := Lib.hid hb2
  have HE2 := Lib.hid ((HEA.out nq).later hb2 (by have := HG.out; simp; omega))
  have HG8 := Lib.hid (show 15 < ((w0.drewN nq).alloc (.cells zeros32 281)).heap.size by have := HG.out; simp; omega)
  have HH := Lib.hid (holds_zeros w2.drew w0.heap.size HZ2.out)
  clear hb2
  go_wp2_with fail
  go_region_law (first
    | (go_simp; go_at_call 111; refine (num15 _ (HE2.out.drew)).mono ?_; rintro e w' ⟨rfl, rfl⟩)
    | (go_simp; go_at_call 224; refine (setDigits15 _ _ HH.out).mono ?_; rintro e w3 ⟨rfl, hc, hb3⟩))
  have hb4 : Below w0.heap.size w0 w3 := HB2.out.trans (show Below w0.heap.size w2 w3 from ⟨hb3.os, hb3.tape, hb3.output, hb3.size, hb3.block⟩)
  have hsz : w0.heap.size < w3.heap.size := by have h1 := HB2S.out.size; have h2 := hb3.size; simp at h1 h2; omega
  have HST := Lib.hid (show St w0 g w0.heap.size [] w3 from ⟨own_later HO.out hb4, hc.1, hc.2, hb4.mono (Nat.le_of_lt HG.out), HG.out, hsz⟩)
  clear hc hb3 hb4 hsz
  go_wp2_with (go_at_call 222; go_must (refine (efg15f _ _ _ _ HST.out).mono ?_); rintro e w4 ⟨rfl, h4⟩)
  go_ret
  exact ⟨rfl, h4.own, h4.bel⟩
end Go.Proofs.YtagiddbfhlokcaaGreatDoor.One
/- FormatFloat at 1.5. Conditions: the cells of the two tables of powers. -/
namespace Go.Proofs.YtagiddbfhlokcaaGreatDoor.One
open Go.RowKit
set_option maxRecDepth 100000
theorem str_of_own {w : World} {base : Nat} {v : Value} (l : List UInt8) (h : w.ownsRow base 5 1 v l.length (Lib.byteCells l)) : (convert 59 9 v).run Tryz.prog w = .ok (.string ⟨l.toArray⟩) w := by
  rcases h.2 with ⟨rfl, h0⟩ | ⟨g, cap, cur, rfl, _⟩
  · have : l = [] := List.length_eq_zero_iff.1 h0
    subst this
    rw [run_convert_bytes_string w 59 9 5 none 0 0 Tryz.underlying59 Tryz.underlying5 Tryz.underlying9]
    rfl
  · refine run_convert_bytes_back w 59 9 5 ⟨g, 0, none⟩ cap l Tryz.underlying59 Tryz.underlying5 Tryz.underlying9 fun j hj => ?_
    have := h.cellAt j (by omega)
    have e : (Addr.add ⟨g, 0, none⟩ j) = ⟨g, j, none⟩ := by unfold Addr.add; split <;> simp_all
    rw [e, this]
    simp [Lib.byteCells, hj]

theorem iform15e (w0 : World) (henv : Env w0) (h8 : 15 < w0.heap.size) : Calls Tryz.prog 150 #[.float .f64 4609434218613702656, .int .u8 101, .int .i64 (-1), .int .i64 64] w0 fun e w' => e = .returned (.string ⟨#[49, 46, 53, 101, 43, 48, 48]⟩) ∧ Below w0.heap.size w0 w' := by
  obtain ⟨i0, hi, hz0, hz1, hz2⟩ := info_parts info5
  have HI := Lib.hid hi
  have HZ0 := Lib.hid hz0
  have HZ1 := Lib.hid hz1
  have HZ2 := Lib.hid hz2
  have HE := Lib.hid henv
  have H8 := Lib.hid h8
  clear hi hz0 hz1 hz2 henv h8
  go_enter Tryz.func150, Tryz.ntmps150
  go_wp2_with (first
    | (refine wpList_make_own w0 rfl _ _ 59 rfl w0.heap.size 5 i0 (.int .u8 0) 1 Tryz.underlying59 HI.out HZ0.out HZ1.out .i64 .i64 24 24 rfl rfl rfl (by rw [HZ2.out]; omega) (by unfold maxLen; omega) (Nat.le_refl _) ?_; intro w1 hown hgrow; have HO1 := Lib.hid hown; have HB1 := Lib.hid ((Below.refl w0.heap.size w0).grown hgrow (Nat.le_refl _) (fun j hj => by cases hj)); have HE1 := Lib.hid (HE.out.later HB1.out H8.out); clear hown hgrow)
    | (go_at_call 187; refine (ftoa15e _ w0.heap.size HO1.out H8.out HE1.out).mono ?_; rintro e w' ⟨rfl, ho, hb⟩; have hcv := str_of_own [49, 46, 53, 101, 43, 48, 48] ho; have HB2 := Lib.hid hb; clear ho hb))
  go_ret
  exact ⟨rfl, HB1.out.trans HB2.out⟩
theorem form15e (w0 : World) (henv : Env w0) (h8 : 15 < w0.heap.size) : Calls Tryz.prog 101 #[.float .f64 4609434218613702656, .int .u8 101, .int .i64 (-1), .int .i64 64] w0 fun e w' => e = .returned (.string ⟨#[49, 46, 53, 101, 43, 48, 48]⟩) ∧ Below w0.heap.size w0 w' := by
  go_enter Tryz.func101, Tryz.ntmps101
  go_wp2_with (go_at_call 150; refine (iform15e _ henv h8).mono ?_; rintro e w' ⟨rfl, hb⟩)
  go_ret
  exact ⟨rfl, hb⟩
theorem iform15f (w0 : World) (henv : Env w0) (h8 : 15 < w0.heap.size) : Calls Tryz.prog 150 #[.float .f64 4609434218613702656, .int .u8 102, .int .i64 (-1), .int .i64 64] w0 fun e w' => e = .returned (.string ⟨#[49, 46, 53]⟩) ∧ Below w0.heap.size w0 w' := by
  obtain ⟨i0, hi, hz0, hz1, hz2⟩ := info_parts info5
  have HI := Lib.hid hi
  have HZ0 := Lib.hid hz0
  have HZ1 := Lib.hid hz1
  have HZ2 := Lib.hid hz2
  have HE := Lib.hid henv
  have H8 := Lib.hid h8
  clear hi hz0 hz1 hz2 henv h8
  go_enter Tryz.func150, Tryz.ntmps150
  go_wp2_with (first
    | (refine wpList_make_own w0 rfl _ _ 59 rfl w0.heap.size 5 i0 (.int .u8 0) 1 Tryz.underlying59 HI.out HZ0.out HZ1.out .i64 .i64 24 24 rfl rfl rfl (by rw [HZ2.out]; omega) (by unfold maxLen; omega) (Nat.le_refl _) ?_; intro w1 hown hgrow; have HO1 := Lib.hid hown; have HB1 := Lib.hid ((Below.refl w0.heap.size w0).grown hgrow (Nat.le_refl _) (fun j hj => by cases hj)); have HE1 := Lib.hid (HE.out.later HB1.out H8.out); clear hown hgrow)
    | (go_at_call 187; refine (ftoa15f _ w0.heap.size HO1.out H8.out HE1.out).mono ?_; rintro e w' ⟨rfl, ho, hb⟩; have hcv := str_of_own [49, 46, 53] ho; have HB2 := Lib.hid hb; clear ho hb))
  go_ret
  exact ⟨rfl, HB1.out.trans HB2.out⟩
theorem form15f (w0 : World) (henv : Env w0) (h8 : 15 < w0.heap.size) : Calls Tryz.prog 101 #[.float .f64 4609434218613702656, .int .u8 102, .int .i64 (-1), .int .i64 64] w0 fun e w' => e = .returned (.string ⟨#[49, 46, 53]⟩) ∧ Below w0.heap.size w0 w' := by
  go_enter Tryz.func101, Tryz.ntmps101
  go_wp2_with (go_at_call 150; refine (iform15f _ henv h8).mono ?_; rintro e w' ⟨rfl, hb⟩)
  go_ret
  exact ⟨rfl, hb⟩
end Go.Proofs.YtagiddbfhlokcaaGreatDoor.One
/- The text of 1.5. Conditions: the cells of the two tables of powers. -/
namespace Go.Proofs.YtagiddbfhlokcaaGreatDoor.One
open Go.RowKit
theorem index0 (w : World) : Calls Tryz.prog 185 #[.string ⟨#[49, 46, 53, 101, 43, 48, 48]⟩, .string ⟨#[101]⟩] w fun e w' => e = .returned (.int .i64 3) ∧ w' = w := by
  have h := Tryz.stringslite_Index_one ⟨#[49, 46, 53, 101, 43, 48, 48]⟩ 101 w
  have e : Lib.indexByte (ByteArray.mk #[49, 46, 53, 101, 43, 48, 48]).data.toList 101 = 3 := by decide
  rw [e] at h
  exact h
theorem scut0 (w : World) : Calls Tryz.prog 149 #[.string ⟨#[49, 46, 53, 101, 43, 48, 48]⟩, .string ⟨#[101]⟩] w fun e w' => e = .returned (.tuple #[.string ⟨#[49, 46, 53]⟩, .string ⟨#[43, 48, 48]⟩, .bool true]) ∧ ∃ n, w' = w.drewN n := by
  go_enter Tryz.func149, Tryz.ntmps149
  go_wp2_with (go_at_call 185; refine (index0 _).mono ?_; rintro e w' ⟨rfl, rfl⟩)
  go_quiet (fail)
  go_wp2
  go_ret3
  exact ⟨rfl, _, rfl⟩
theorem cut0 (w : World) : Calls Tryz.prog 100 #[.string ⟨#[49, 46, 53, 101, 43, 48, 48]⟩, .string ⟨#[101]⟩] w fun e w' => e = .returned (.tuple #[.string ⟨#[49, 46, 53]⟩, .string ⟨#[43, 48, 48]⟩, .bool true]) ∧ ∃ n, w' = w.drewN n := by
  go_enter Tryz.func100, Tryz.ntmps100
  go_wp2_with (go_at_call 149; refine (scut0 _).mono ?_; rintro e w' ⟨rfl, n, rfl⟩)
  go_ret3
  exact ⟨rfl, _, rfl⟩
theorem atoi0 (w : World) : Calls Tryz.prog 102 #[.string ⟨#[43, 48, 48]⟩] w fun e w' => e = .returned (.tuple #[.int .i64 0, .nilIface]) ∧ Below w.heap.size w w' := by
  refine (Tryz.strconv_Atoi ⟨#[43, 48, 48]⟩ 0 (by decide) (by decide) w).mono ?_
  rintro e w' ⟨rfl, t, rfl⟩
  exact ⟨rfl, Lib.bytesWorld_below _ _ _⟩
theorem vfloat15 (w : World) (henv : Env w) (h8 : 15 < w.heap.size) : Calls Tryz.prog 65 #[.float .f64 4609434218613702656] w fun e w' => e = .returned (.string ⟨#[49, 46, 53]⟩) ∧ Below w.heap.size w w' := by
  go_enter Tryz.func65, Tryz.ntmps65
  go_wp2_with fail
  refine (form15e _ henv h8).mono ?_
  rintro e w1 ⟨rfl, hb1⟩
  go_wp2_with fail
  refine (cut0 _).mono ?_
  rintro e w2 ⟨rfl, n, rfl⟩
  go_wp2_with fail
  refine (atoi0 _).mono ?_
  rintro e w3 ⟨rfl, hb3⟩
  go_wp2_with fail
  refine (form15f _ (((henv.later hb1 h8).later (below_drewN (Below.refl w1.heap.size w1) n) (Nat.lt_of_lt_of_le h8 hb1.size)).later hb3 (Nat.lt_of_lt_of_le h8 hb1.size)) (Nat.lt_of_lt_of_le h8 (Nat.le_trans hb1.size hb3.size))).mono ?_
  rintro e w4 ⟨rfl, hb4⟩
  go_wp2_with fail
  go_ret
  exact ⟨rfl, ((below_drewN hb1 n).trans (hb3.mono (below_drewN hb1 n).size)).trans (hb4.mono ((below_drewN hb1 n).trans (hb3.mono (below_drewN hb1 n).size)).size)⟩
end Go.Proofs.YtagiddbfhlokcaaGreatDoor.One
/- Of, Formed and Print at 1.5, and awake. Conditions: the cells of the two tables of powers. -/
namespace Go.Proofs.YtagiddbfhlokcaaGreatDoor.One
open Go.RowKit Go.Sort
set_option maxRecDepth 100000
theorem run7 (x : Nat) (w : World) : (callFunc 55 #[.float .f64 x]).run Tryz.prog w = .ok (.value (.int .u64 x)) w := by
  rw [run_callFunc_extern Tryz.func55 (by kernel_rfl) (by kernel_rfl) (by kernel_rfl) (e := Extern.MathFloatBits.float64bits) (by kernel_rfl)]
  rfl
theorem run11 (n : Int) (w : World) : (callFunc 66 #[.int .u64 n]).run Tryz.prog w = .ok (.value (.float .f64 n.toNat)) w := by
  rw [run_callFunc_extern Tryz.func66 (by kernel_rfl) (by kernel_rfl) (by kernel_rfl) (e := Extern.MathFloatBits.float64frombits) (by kernel_rfl)]
  rfl
def vFl (x : Nat) : Value := .agg #[.int .i64 1, .int .u64 x, .string ⟨#[]⟩]
def cFl (x : Nat) : Obj := .cells #[.int .i64 1, .int .u64 x, .string ⟨#[]⟩] 53
theorem cells_fl (w : World) (x : Nat) : (w.alloc (cFl x)).cell? ⟨w.heap.size, 0, none⟩ = some (.int .i64 1) ∧ (w.alloc (cFl x)).cell? ⟨w.heap.size, 1, none⟩ = some (.int .u64 x) ∧ (w.alloc (cFl x)).cell? ⟨w.heap.size, 2, none⟩ = some (.string ⟨#[]⟩) := by
  unfold cFl
  simp
theorem results8 (tmps : Array Value) (w : World) (B : Nat) (x y z : Value) (hb : tmps.getD 2 undef = .pointer (some ⟨B, 0, none⟩)) (h : w.cell? ⟨B, 0, none⟩ = some x ∧ w.cell? ⟨B, 1, none⟩ = some y ∧ w.cell? ⟨B, 2, none⟩ = some z) :
    (results Tryz.f50 tmps).run Tryz.prog w = .ok (.agg #[x, y, z]) w := by
  have hb' : tmps[2]?.getD undef = .pointer (some ⟨B, 0, none⟩) := by simpa using hb
  simp [results, hb', h.1, h.2.1, h.2.2, go_sem]
theorem of8 (x : Nat) (w : World) : Calls Tryz.prog 50 #[.float .f64 x] w fun e w' => e = .returned (vFl x) ∧ w' = w.alloc (cFl x) := by
  have h7 := run7 x
  go_enter Tryz.func50, Tryz.ntmps50
  go_wp2_with fail
  exact bodyPost_ret (results8 _ _ w.heap.size _ _ _ rfl (cells_fl w x)) rfl ⟨rfl, rfl⟩
end Go.Proofs.YtagiddbfhlokcaaGreatDoor.One
/- Formed and Print at 1.5, and awake. Conditions: the cells of the two tables of powers. -/
namespace Go.Proofs.YtagiddbfhlokcaaGreatDoor.One
open Go.RowKit Go.Sort
set_option maxRecDepth 100000
theorem abs15 (w : World) : Calls Tryz.prog 147 #[.float .f64 4609434218613702656] w fun e w' => e = .returned (.float .f64 4609434218613702656) ∧ w = w' := by
  have h7 := run7 4609434218613702656
  have h11 := run11 4609434218613702656
  have b1 : bits BinOp.andNot IntKind.u64 4609434218613702656 9223372036854775808 = 4609434218613702656 := by kernel_rfl
  go_enter Tryz.func147, Tryz.ntmps147
  go_wp2_with fail
  go_ret
  exact ⟨rfl, rfl⟩
theorem isNaN15 (w : World) : Calls Tryz.prog 94 #[.float .f64 4609434218613702656] w fun e w' => e = .returned (.bool false) ∧ w = w' := by
  have h : FloatKind.f64.format.order 4609434218613702656 4609434218613702656 = some .eq := by kernel_rfl
  go_enter Tryz.func94, Tryz.ntmps94
  go_wp2
  go_ret
  exact ⟨rfl, rfl⟩
theorem isInf15 (w : World) : Calls Tryz.prog 95 #[.float .f64 4609434218613702656, .int .i64 0] w fun e w' => e = .returned (.bool false) ∧ w = w' := by
  have h : FloatKind.f64.format.order 4609434218613702656 9218868437227405311 = some .lt := by kernel_rfl
  go_enter Tryz.func95, Tryz.ntmps95
  go_wp2_with (go_at_call 147; refine (abs15 _).mono ?_; rintro e w' ⟨rfl, rfl⟩)
  go_ret
  exact ⟨rfl, rfl⟩
theorem formed15 (w : World) : Calls Tryz.prog 59 #[vFl 4609434218613702656] w fun e w' => e = .returned (.bool true) ∧ w' = w.alloc (cFl 4609434218613702656) := by
  have h11 : ∀ w, (callFunc 66 #[.int .u64 4609434218613702656]).run Tryz.prog w = .ok (.value (.float .f64 4609434218613702656)) w := fun w => run11 4609434218613702656 w
  unfold vFl cFl
  go_enter Tryz.func59, Tryz.ntmps59
  go_wp2_with fail
  refine (isNaN15 _).mono ?_
  rintro e w' ⟨rfl, rfl⟩
  go_wp2_with fail
  refine (isInf15 _).mono ?_
  rintro e w' ⟨rfl, rfl⟩
  go_wp2_with fail
  go_ret
  exact ⟨rfl, rfl⟩
end Go.Proofs.YtagiddbfhlokcaaGreatDoor.One
/- Print at 1.5, and awake. Conditions: the cells of the two tables of powers. -/
namespace Go.Proofs.YtagiddbfhlokcaaGreatDoor.One
open Go.RowKit Go.Sort
set_option maxRecDepth 100000
theorem print15 (w : World) (henv : Env w) (h8 : 15 < w.heap.size) : Calls Tryz.prog 27 #[vFl 4609434218613702656] w fun e w' => e = .returned (.tuple #[.string ⟨#[49, 46, 53]⟩, .int .i64 0]) ∧ Below w.heap.size w w' := by
  have h11 : ∀ w, (callFunc 66 #[.int .u64 4609434218613702656]).run Tryz.prog w = .ok (.value (.float .f64 4609434218613702656)) w := fun w => run11 4609434218613702656 w
  have hb2 := ((Below.refl w.heap.size w).alloc (Nat.le_refl _) (cFl 4609434218613702656)).alloc (by simp) (cFl 4609434218613702656)
  have HB2 := Lib.hid hb2
  have HE2 := Lib.hid (henv.later hb2 h8)
  have H8 := Lib.hid (show 15 < ((w.alloc (cFl 4609434218613702656)).alloc (cFl 4609434218613702656)).heap.size by simp; omega)
  have hform := formed15
  have HF := Lib.hid hform
  clear hb2 henv h8 hform
  unfold vFl cFl at *
  go_enter Tryz.func27, Tryz.ntmps27
  go_wp2_with fail
  refine (HF.out _).mono ?_
  rintro e w' ⟨rfl, hw⟩
  subst hw
  go_wp2_with fail
  refine (vfloat15 _ HE2.out H8.out).mono ?_
  rintro e w' ⟨rfl, hb⟩
  go_wp2_with fail
  go_ret2
  exact ⟨rfl, HB2.out.trans (hb.mono (by simp; omega))⟩
theorem awake15 (w : World) (henv : Env w) (h8 : 15 < w.heap.size) : Calls Tryz.prog 20 #[] w fun e w' => e = .returned (.bool true) ∧ Below w.heap.size w w' := by
  have hb1 := (Below.refl w.heap.size w).alloc (Nat.le_refl _) (cFl 4609434218613702656)
  have HB1 := Lib.hid hb1
  have HE1 := Lib.hid (henv.later hb1 h8)
  have H8 := Lib.hid (show 15 < (w.alloc (cFl 4609434218613702656)).heap.size by simp; omega)
  clear hb1 henv h8
  go_enter Tryz.func20, Tryz.ntmps20
  go_wp2_with fail
  refine (of8 _ _).mono ?_
  rintro e w' ⟨rfl, hw⟩
  subst hw
  go_wp2_with fail
  refine (print15 _ HE1.out H8.out).mono ?_
  rintro e w' ⟨rfl, hb⟩
  go_wp2_with fail
  go_ret
  exact ⟨rfl, HB1.out.trans (hb.mono (by simp))⟩
end Go.Proofs.YtagiddbfhlokcaaGreatDoor.One
/- The walks' environment out of the row's condition. No condition. -/
namespace Go.Proofs.YtagiddbfhlokcaaGreatDoor
open Go.RowKit
set_option maxRecDepth 100000
def TT (k : Nat) : Nat × Nat := Pinned.pow10Rows.getD k (0, 0)
def FF (k : Nat) : Nat := flL.getD k 0
def SS (k : Nat) : ByteArray := ⟨(Pinned.cheatRows.getD k (0, [])).2.toArray⟩
theorem tt_lt : TabLt TT := by
  have key : (Pinned.pow10Rows.all fun x => decide (x.1 < 18446744073709551616) && decide (x.2 < 18446744073709551616)) = true := by decide +kernel
  intro k
  unfold TT
  by_cases h : k < Pinned.pow10Rows.length
  · rw [List.getD_eq_getElem?_getD, List.getElem?_eq_getElem h]
    have := List.all_eq_true.1 key _ (List.getElem_mem h)
    simpa using this
  · rw [List.getD_eq_getElem?_getD, List.getElem?_eq_none (by omega)]
    simp
theorem ff_ok : PF.TabOk FF := by
  have key : ∀ k : Fin 23, PF.Low (FF k.val) 1096 ∧ PF.High (FF k.val) 1023 ∧ FF k.val < 9223372036854775808 := by
    unfold PF.Low PF.High
    decide +kernel
  intro k hk
  exact key ⟨k, by omega⟩
theorem penv_of {W : World} (h : laidMet Tryz.prog Laid.lst W) : ∃ B2 o2 B o, PEnv TT FF B2 o2 B o SS W := by
  obtain ⟨i0, i1, i2⟩ := info_of h
  obtain ⟨B2, o2, p0, p1⟩ := pt_of h
  obtain ⟨g, og, f0, f1⟩ := fl_of h
  obtain ⟨B, o, c0, c1⟩ := ch_of h
  have hpow := pow_of h
  have hl : Pinned.pow10Rows.length = 696 := by decide +kernel
  have hcl : Pinned.cheatRows.length = 61 := by decide +kernel
  refine ⟨B2, o2, B, o, ⟨⟨fun k hk => ?_, fun k hk => ?_⟩, tt_lt, ⟨i0, ff_ok, g, og, f0, fun k hk => ?_⟩, ⟨i0, i1, i2, p0, fun i hi => ?_, ⟨c0, fun k h1 h2 => ?_, fun k h1 h2 => ⟨?_, ?_⟩⟩⟩, op_of h⟩⟩
  · rw [(hpow k (by omega)).1]
    unfold TT
    rw [List.getD_eq_getElem?_getD, List.getElem?_eq_getElem (by omega)]
    rfl
  · rw [(hpow k (by omega)).2]
    unfold TT
    rw [List.getD_eq_getElem?_getD, List.getElem?_eq_getElem (by omega)]
    rfl
  · rw [f1 k (by omega)]
    unfold FF
    rw [List.getD_eq_getElem?_getD, List.getElem?_eq_getElem (show k < flL.length from by show k < 23; omega)]
    rfl
  · rw [p1 i hi]
    have key : ∀ i : Fin 9, (ptL[i.val]'(i.isLt)) = (PF.powtab i.val : Int) := by decide +kernel
    rw [← key ⟨i, hi⟩]
  · have h3 := (c1 k (by omega)).1
    rw [h3]
    have key : ∀ k : Fin 61, 1 ≤ k.val → (Pinned.cheatRows.getD k.val (0, [])).1 = k.val - PF.cN k.val + 1 := by decide +kernel
    have := key ⟨k, h2⟩ h1
    rw [List.getD_eq_getElem?_getD, List.getElem?_eq_getElem (by omega)] at this
    simp only [Option.getD_some] at this
    rw [this]
  · have h3 := (c1 k (by omega)).2
    rw [h3]
    unfold SS
    rw [List.getD_eq_getElem?_getD, List.getElem?_eq_getElem (by omega)]
    rfl
  · have key : ∀ k : Fin 61, 1 ≤ k.val → (Pinned.cheatRows.getD k.val (0, [])).2.map UInt8.toNat = (PF.dgs (5 ^ k.val)).map (48 + ·) := by decide +kernel
    have h3 := key ⟨k, h2⟩ h1
    simp only at h3
    unfold SS
    obtain ⟨l, hl2⟩ : ∃ l, (Pinned.cheatRows.getD k (0, [])).2 = l := ⟨_, rfl⟩
    obtain ⟨d, hd⟩ : ∃ d, PF.dgs (5 ^ k) = d := ⟨_, rfl⟩
    rw [hl2, hd] at h3
    rw [hl2, hd]
    have hlen : l.length = d.length := by have := congrArg List.length h3; simpa using this
    refine ⟨by rw [← hlen]; simp [ByteArray.size], fun i hi => ?_⟩
    have hi2 : i < l.length := by simpa [ByteArray.size] using hi
    have h4 := congrArg (·[i]?) h3
    simp only [List.getElem?_map, List.getElem?_eq_getElem hi2, List.getElem?_eq_getElem (show i < d.length by omega), Option.map_some] at h4
    have h5 := Option.some.inj h4
    have e1 : (ByteArray.mk l.toArray)[i] = l[i] := by
      show l.toArray[i] = _
      simp
    rw [e1, h5, List.getD_eq_getElem?_getD, List.getElem?_eq_getElem (by omega)]
    rfl
theorem one_env {W : World} (h : laidMet Tryz.prog Laid.lst W) : One.Env W ∧ 15 < W.heap.size := by
  have hl : Pinned.pow10Rows.length = 696 := by decide +kernel
  have h364 := pow_of h 364 (by omega)
  have e : Pinned.pow10Rows[364]'(by omega) = (10240000000000000000, 0) := by
    have : Pinned.pow10Rows[364]? = some (10240000000000000000, 0) := by decide +kernel
    rw [List.getElem?_eq_getElem (by omega)] at this
    exact Option.some.inj this
  rw [e] at h364
  have h8 := drop_met 8 (by omega) h
  have tab_is : (Rows.laid_internal_strconv_uint64pow10 : DataW Unit) = Lib.tabData .u64 Lib.pow10Tab := by kernel_rfl
  have h9 : laidMet Tryz.prog (("internal/strconv.uint64pow10", Lib.tabData .u64 Lib.pow10Tab) :: Laid.lst.drop 9) W := by rw [← tab_is]; exact h8
  have ht := Lib.tabIs_of_head (by kernel_rfl : Tryz.prog.globalNamed "internal/strconv.uint64pow10" = some 1) (by kernel_rfl : (Tryz.prog.globals[1]?).map (·.type) = some 201) Tryz.underlying201 Tryz.underlying51 (by kernel_rfl : Tryz.prog.cellsOf 51 = 1) (by kernel_rfl) h9
  exact ⟨⟨⟨h364.1, h364.2⟩, ht⟩, World.block_lt_of_cell? W _ h364.1⟩
end Go.Proofs.YtagiddbfhlokcaaGreatDoor
/- What one line reads as. No condition. -/
namespace Go.Proofs.YtagiddbfhlokcaaGreatDoor.Ser
open Go.RowKit Go.Sort
set_option maxRecDepth 100000
def V0 : List UInt8 → Value × Int := valP (tabF TT) FF
def l0 : List UInt8 := [99, 112, 117, 44, 104, 111, 115, 116, 61, 97, 32, 118, 61, 49, 46, 53, 44, 110, 61, 51, 105, 32, 49, 48]
def chk (o : LR) : Bool := decide (o.1 = 0) && match o.2 with
  | some (_, _, fs, tm) => decide (tm = 10) && decide (fs.length = 2) && decide ((fE fs 0).1 = ⟨#[110]⟩)
  | none => false
theorem chk0 : chk (lineP V0 0 l0) = true := by decide +kernel
end Go.Proofs.YtagiddbfhlokcaaGreatDoor.Ser
/- The law ValueParses: both readers answer alike. Condition: the text's length, the tables. -/
namespace Go.Proofs.YtagiddbfhlokcaaGreatDoor
open Go.RowKit
set_option maxRecDepth 100000
theorem valP_val (T : Int → Nat × Nat) (F : Nat → Nat) (l : List UInt8) : ∃ k b t n, valP T F l = (val k b t, n) := by
  unfold valP
  split
  · exact ⟨_, _, _, _, rfl⟩
  split
  · exact ⟨_, _, _, _, rfl⟩
  split
  · exact unqV_val _
  split
  · split
    · exact ⟨_, _, _, _, rfl⟩
    · exact ⟨_, _, _, _, rfl⟩
  split
  · split
    · exact ⟨_, _, _, _, rfl⟩
    · exact ⟨_, _, _, _, rfl⟩
  · exact ⟨_, _, _, _, rfl⟩
set_option maxHeartbeats 4000000 in
theorem law6 (l : List UInt8) (hlen : l.length ≤ 140737488355328) (w : World) (hm : laidMet Tryz.prog Laid.lst w) :
    Calls Tryz.prog 6 #[.string (bs l)] w fun e w' => e = .returned (.bool true) ∧ Below w.heap.size w w' := by
  obtain ⟨B2, o2, B, o, hp⟩ := penv_of hm
  obtain ⟨tp, p, her⟩ := er_of hm
  obtain ⟨henv, h15⟩ := one_env hm
  obtain ⟨k, b, t, n, hval⟩ := valP_val (tabF TT) FF l
  have M21 := Lib.hid (fun w2 (h : Below w.heap.size w w2) => parse21 l hlen w2 (hp.below h) ((h.cell (cell_lt her)).trans her) (.inr ⟨_, _, rfl⟩))
  have M22 := Lib.hid (fun w2 (h : Below w.heap.size w w2) => parse22 l hlen w2 (hp.below h) ((h.cell (cell_lt her)).trans her) (.inr ⟨_, _, rfl⟩))
  rw [hval] at M21 M22
  unfold val at M21 M22
  simp only at M21 M22
  have MA := Lib.hid (One.awake15 w henv h15)
  clear hm hp her henv hval h15
  go_enter Tryz.func6, Tryz.ntmps6
  go_wp2_with fail
  refine MA.out.mono ?_
  rintro e w1 ⟨rfl, hb1⟩
  have HB1 := Lib.hid hb1
  clear hb1
  go_wp2_with fail
  refine (M21.out _ HB1.out).mono ?_
  rintro e w2 ⟨rfl, hb2⟩
  have HB2 := Lib.hid (HB1.out.trans (hb2.mono HB1.out.size))
  clear hb2
  have hba : Below w.heap.size w (w2.alloc (.cells #[.int .i64 k, .int .u64 b, .string t] 53 (0, 0))) := HB2.out.alloc HB2.out.size _
  have hnew := newest w2 (.cells #[.int .i64 k, .int .u64 b, .string t] 53 (0, 0))
  have hlt : w2.heap.size < (w2.alloc (.cells #[.int .i64 k, .int .u64 b, .string t] 53 (0, 0))).heap.size := by simp
  go_wp2_with fail
  obtain ⟨w3, hw3⟩ : ∃ w3, w2.alloc (.cells #[.int .i64 k, .int .u64 b, .string t] 53 (0, 0)) = w3 := ⟨_, rfl⟩
  rw [hw3] at hba hnew hlt
  have HBA := Lib.hid hba
  have HNEW := Lib.hid hnew
  have HLT := Lib.hid hlt
  clear hba hnew hlt
  rw [hw3]
  clear hw3
  refine (M22.out _ HBA.out).mono ?_
  rintro e w4 ⟨rfl, hb4⟩
  have hk : w4.heap[w2.heap.size]? = some (.cells #[.int .i64 k, .int .u64 b, .string t] 53 (0, 0)) := (hb4.block _ HLT.out).trans HNEW.out
  have HB4 := Lib.hid (HBA.out.trans (hb4.mono HBA.out.size))
  have c0 : w4.cell? ⟨w2.heap.size, 0, none⟩ = some (.int .i64 k) := Lib.cell_of_heap hk 0
  have c1 : w4.cell? ⟨w2.heap.size, 1, none⟩ = some (.int .u64 b) := Lib.cell_of_heap hk 1
  have c2 : w4.cell? ⟨w2.heap.size, 2, none⟩ = some (.string t) := Lib.cell_of_heap hk 2
  have hlt4 : w2.heap.size < w4.heap.size := Nat.lt_of_lt_of_le HLT.out hb4.size
  clear hb4 hk
  go_wp2_with fail
  go_ret
  exact ⟨rfl, HB4.out.alloc HB4.out.size _⟩
end Go.Proofs.YtagiddbfhlokcaaGreatDoor
/- The law LineParses: both readers of a line answer alike. Conditions: the text's length; the tables. -/
namespace Go.Proofs.YtagiddbfhlokcaaGreatDoor.Ser
open Go.RowKit Go.Sort
set_option maxRecDepth 100000
theorem wrap_u64 (z : Int) : 0 ≤ IntKind.wrap .u64 z ∧ IntKind.wrap .u64 z < 18446744073709551616 := by
  simp only [IntKind.wrap]
  constructor
  · exact Int.emod_nonneg _ (by decide)
  · exact Int.emod_lt_of_pos _ (by decide)
theorem V0_val (l : List UInt8) : ∃ k b t n, V0 l = (val k b t, n) ∧ 0 ≤ b ∧ b < 18446744073709551616 := by
  unfold V0 valP
  split
  · exact ⟨_, _, _, _, rfl, by decide, by decide⟩
  split
  · exact ⟨_, _, _, _, rfl, by decide, by decide⟩
  split
  · unfold unqV
    split
    · exact ⟨_, _, _, _, rfl, by decide, by decide⟩
    · split
      · exact ⟨_, _, _, _, rfl, by decide, by decide⟩
      · exact ⟨_, _, _, _, rfl, by decide, by decide⟩
  split
  · split
    · exact ⟨_, _, _, _, rfl, (wrap_u64 _).1, (wrap_u64 _).2⟩
    · exact ⟨_, _, _, _, rfl, by decide, by decide⟩
  split
  · split
    · exact ⟨_, _, _, _, rfl, by decide, by decide⟩
    · refine ⟨_, _, _, _, rfl, by omega, ?_⟩
      have := (PF.atof_fin (T := tabF TT) (fun p => (tt_lt _).1) ff_ok l).2.2
      omega
  · exact ⟨_, _, _, _, rfl, by decide, by decide⟩
theorem readers_of {w : World} (hm : laidMet Tryz.prog Laid.lst w) : Readers V0 w ∧ RReaders V0 w := by
  obtain ⟨B2, o2, B, o, hp⟩ := penv_of hm
  obtain ⟨tp, p, her⟩ := er_of hm
  refine ⟨⟨fun l hl w2 h => parse22 l hl w2 (hp.below h) ((h.cell (cell_lt her)).trans her) (.inr ⟨_, _, rfl⟩), fun l hl w2 h => int43 l (by omega) w2 ((h.cell (cell_lt her)).trans her) (.inr ⟨_, _, rfl⟩), V0_val⟩, ⟨fun l hl w2 h => parse21 l hl w2 (hp.below h) ((h.cell (cell_lt her)).trans her) (.inr ⟨_, _, rfl⟩), V0_val⟩⟩
theorem Readers.later {V : List UInt8 → Value × Int} {w w' : World} (h : Readers V w) (hb : Below w.heap.size w w') : Readers V w' :=
  ⟨fun l hl w2 h2 => h.v l hl w2 (hb.trans (h2.mono hb.size)), fun l hl w2 h2 => h.i l hl w2 (hb.trans (h2.mono hb.size)), h.f⟩
theorem RReaders.later {V : List UInt8 → Value × Int} {w w' : World} (h : RReaders V w) (hb : Below w.heap.size w w') : RReaders V w' :=
  ⟨fun l hl w2 h2 => h.v l hl w2 (hb.trans (h2.mono hb.size)), h.f⟩
theorem chk_some {o : LR} (h : chk o = true) : ∃ nm ts fs, o = (0, some (nm, ts, fs, 10)) ∧ fs.length = 2 ∧ (fE fs 0).1 = ⟨#[110]⟩ := by
  obtain ⟨e, r⟩ := o
  unfold chk at h
  simp only [Bool.and_eq_true, decide_eq_true_eq] at h
  obtain ⟨h1, h2⟩ := h
  cases r with
  | none => cases h2
  | some r =>
    obtain ⟨nm, ts, fs, tm⟩ := r
    simp only [Bool.and_eq_true, decide_eq_true_eq] at h2
    obtain ⟨⟨h3, h4⟩, h5⟩ := h2
    subst h1 h3
    exact ⟨nm, ts, fs, rfl, h4, h5⟩
set_option maxHeartbeats 4000000 in
theorem awake10 (w : World) (HV : Readers V0 w) : Calls Tryz.prog 10 #[] w (Answer (.bool true) w) := by
  obtain ⟨nm, ts, fs, ho, hlen, hkey⟩ := chk_some chk0
  have MP := parse15 l0 (by decide) 0 w HV
  rw [ho] at MP
  have hb0 : bs l0 = ⟨#[99, 112, 117, 44, 104, 111, 115, 116, 61, 97, 32, 118, 61, 49, 46, 53, 44, 110, 61, 51, 105, 32, 49, 48]⟩ := by decide
  rw [hb0] at MP
  have MPP := Lib.hid MP
  have HL := Lib.hid hlen
  have HKY := Lib.hid hkey
  clear ho MP hb0 HV hlen hkey
  go_enter Tryz.func10, Tryz.ntmps10
  go_wp2_with fail
  refine MPP.out.mono ?_
  rintro e w1 ⟨hb1, v, vf, rfl, hrt, hrf, hap⟩
  obtain ⟨a1, c1, rfl⟩ := hrt.slice
  obtain ⟨a2, c2, rfl⟩ := hrf.slice
  simp only at hrt hrf
  have hf := hrf.at
  obtain ⟨b, off, ha, hbw, e0, _, _, _⟩ := hf 0 (by rw [HL.out]; decide)
  subst ha
  rw [HKY.out] at e0
  rw [HL.out]
  have HB1 := Lib.hid hb1
  simp only [Nat.zero_mul, Nat.add_zero] at e0
  clear hrt hrf hap hf hb1
  go_upto_region 2 with (fail)
  refine wp_gen (fun wx => Below w.heap.size w wx ∧ wx.heap[w1.heap.size]? = some (.cells #[.string nm, .slice a1 ts.length c1, .slice (some ⟨b, off, none⟩) 2 c2, .int .i64 10] 27 (0, 0)) ∧ wx.cell? ⟨b, off, none⟩ = some (.string ⟨#[110]⟩)) ⟨HB1.out.alloc HB1.out.size _, newest _ _, ((((Below.refl w1.heap.size w1).alloc (Nat.le_refl _) _).cell (p := ⟨b, off, none⟩) hbw)).trans e0⟩ ?_
  rintro w2 ⟨hb2, hk2, hg2⟩
  have c2' : w2.cell? ⟨w1.heap.size, 2, none⟩ = some (.slice (some ⟨b, off, none⟩) 2 c2) := Lib.cell_of_heap hk2 2
  have c3' : w2.cell? ⟨w1.heap.size, 3, none⟩ = some (.int .i64 10) := Lib.cell_of_heap hk2 3
  have HB2 := Lib.hid hb2
  clear hb2 hk2 e0 hbw
  go_wp2_with fail
  go_ret
  exact ⟨rfl, HB2.out⟩
end Go.Proofs.YtagiddbfhlokcaaGreatDoor.Ser
