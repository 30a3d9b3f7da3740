/- Several texts of this proof, laid together. Conditions: as each says. -/
import Derived.Test.YtagiddbfhlokcaaGreatDoorKAE
import Derived.Test.YtagiddbfhlokcaaGreatDoorKAD
import Derived.WalkKit
import Derived.ProofKit
import Derived.Below
/- Print at 1.5, and awake. Conditions: the cells of the two tables of powers. -/
namespace Go.Proofs.YtagiddbfhlokcaaGreatDoor.One
open Go.RowKit Go.Sort
set_option maxRecDepth 100000
theorem print15 (w : World) (henv : Env w) (h8 : 15 < w.heap.size) : Calls Tryz.prog 27 #[vFl 4609434218613702656] w fun e w' => e = .returned (.tuple #[.string ⟨#[49, 46, 53]⟩, .int .i64 0]) ∧ Below w.heap.size w w' := by
  have h11 : ∀ w, (callFunc 66 #[.int .u64 4609434218613702656]).run Tryz.prog w = .ok (.value (.float .f64 4609434218613702656)) w := fun w => run11 4609434218613702656 w
  have hb2 := ((Below.refl w.heap.size w).alloc (Nat.le_refl _) (cFl 4609434218613702656)).alloc (by simp) (cFl 4609434218613702656)
  have HB2 := Lib.hid hb2
  have HE2 := Lib.hid (henv.later hb2 h8)
  have H8 := Lib.hid (show 15 < ((w.alloc (cFl 4609434218613702656)).alloc (cFl 4609434218613702656)).heap.size by simp; omega)
  have hform := formed15
  have HF := Lib.hid hform
  clear hb2 henv h8 hform
  unfold vFl cFl at *
  go_enter Tryz.func27, Tryz.ntmps27
  go_wp2_with fail
  refine (HF.out _).mono ?_
  rintro e w' ⟨rfl, hw⟩
  subst hw
  go_wp2_with fail
  refine (vfloat15 _ HE2.out H8.out).mono ?_
  rintro e w' ⟨rfl, hb⟩
  go_wp2_with fail
  go_ret2
  exact ⟨rfl, HB2.out.trans (hb.mono (by simp; omega))⟩
theorem awake15 (w : World) (henv : Env w) (h8 : 15 < w.heap.size) : Calls Tryz.prog 20 #[] w fun e w' => e = .returned (.bool true) ∧ Below w.heap.size w w' := by
  have hb1 := (Below.refl w.heap.size w).alloc (Nat.le_refl _) (cFl 4609434218613702656)
  have HB1 := Lib.hid hb1
  have HE1 := Lib.hid (henv.later hb1 h8)
  have H8 := Lib.hid (show 15 < (w.alloc (cFl 4609434218613702656)).heap.size by simp; omega)
  clear hb1 henv h8
  go_enter Tryz.func20, Tryz.ntmps20
  go_wp2_with fail
  refine (of8 _ _).mono ?_
  rintro e w' ⟨rfl, hw⟩
  subst hw
  go_wp2_with fail
  refine (print15 _ HE1.out H8.out).mono ?_
  rintro e w' ⟨rfl, hb⟩
  go_wp2_with fail
  go_ret
  exact ⟨rfl, HB1.out.trans (hb.mono (by simp))⟩
end Go.Proofs.YtagiddbfhlokcaaGreatDoor.One
/- The walks' environment out of the row's condition. No condition. -/
namespace Go.Proofs.YtagiddbfhlokcaaGreatDoor
open Go.RowKit
set_option maxRecDepth 100000
def TT (k : Nat) : Nat × Nat := Pinned.pow10Rows.getD k (0, 0)
def FF (k : Nat) : Nat := flL.getD k 0
def SS (k : Nat) : ByteArray := ⟨(Pinned.cheatRows.getD k (0, [])).2.toArray⟩
theorem tt_lt : TabLt TT := by
  have key : (Pinned.pow10Rows.all fun x => decide (x.1 < 18446744073709551616) && decide (x.2 < 18446744073709551616)) = true := by decide +kernel
  intro k
  unfold TT
  by_cases h : k < Pinned.pow10Rows.length
  · rw [List.getD_eq_getElem?_getD, List.getElem?_eq_getElem h]
    have := List.all_eq_true.1 key _ (List.getElem_mem h)
    simpa using this
  · rw [List.getD_eq_getElem?_getD, List.getElem?_eq_none (by omega)]
    simp
theorem ff_ok : PF.TabOk FF := by
  have key : ∀ k : Fin 23, PF.Low (FF k.val) 1096 ∧ PF.High (FF k.val) 1023 ∧ FF k.val < 9223372036854775808 := by
    unfold PF.Low PF.High
    decide +kernel
  intro k hk
  exact key ⟨k, by omega⟩
theorem penv_of {W : World} (h : laidMet Tryz.prog Laid.lst W) : ∃ B2 o2 B o, PEnv TT FF B2 o2 B o SS W := by
  obtain ⟨i0, i1, i2⟩ := info_of h
  obtain ⟨B2, o2, p0, p1⟩ := pt_of h
  obtain ⟨g, og, f0, f1⟩ := fl_of h
  obtain ⟨B, o, c0, c1⟩ := ch_of h
  have hpow := pow_of h
  have hl : Pinned.pow10Rows.length = 696 := by decide +kernel
  have hcl : Pinned.cheatRows.length = 61 := by decide +kernel
  refine ⟨B2, o2, B, o, ⟨⟨fun k hk => ?_, fun k hk => ?_⟩, tt_lt, ⟨i0, ff_ok, g, og, f0, fun k hk => ?_⟩, ⟨i0, i1, i2, p0, fun i hi => ?_, ⟨c0, fun k h1 h2 => ?_, fun k h1 h2 => ⟨?_, ?_⟩⟩⟩, op_of h⟩⟩
  · rw [(hpow k (by omega)).1]
    unfold TT
    rw [List.getD_eq_getElem?_getD, List.getElem?_eq_getElem (by omega)]
    rfl
  · rw [(hpow k (by omega)).2]
    unfold TT
    rw [List.getD_eq_getElem?_getD, List.getElem?_eq_getElem (by omega)]
    rfl
  · rw [f1 k (by omega)]
    unfold FF
    rw [List.getD_eq_getElem?_getD, List.getElem?_eq_getElem (show k < flL.length from by show k < 23; omega)]
    rfl
  · rw [p1 i hi]
    have key : ∀ i : Fin 9, (ptL[i.val]'(i.isLt)) = (PF.powtab i.val : Int) := by decide +kernel
    rw [← key ⟨i, hi⟩]
  · have h3 := (c1 k (by omega)).1
    rw [h3]
    have key : ∀ k : Fin 61, 1 ≤ k.val → (Pinned.cheatRows.getD k.val (0, [])).1 = k.val - PF.cN k.val + 1 := by decide +kernel
    have := key ⟨k, h2⟩ h1
    rw [List.getD_eq_getElem?_getD, List.getElem?_eq_getElem (by omega)] at this
    simp only [Option.getD_some] at this
    rw [this]
  · have h3 := (c1 k (by omega)).2
    rw [h3]
    unfold SS
    rw [List.getD_eq_getElem?_getD, List.getElem?_eq_getElem (by omega)]
    rfl
  · have key : ∀ k : Fin 61, 1 ≤ k.val → (Pinned.cheatRows.getD k.val (0, [])).2.map UInt8.toNat = (PF.dgs (5 ^ k.val)).map (48 + ·) := by decide +kernel
    have h3 := key ⟨k, h2⟩ h1
    simp only at h3
    unfold SS
    obtain ⟨l, hl2⟩ : ∃ l, (Pinned.cheatRows.getD k (0, [])).2 = l := ⟨_, rfl⟩
    obtain ⟨d, hd⟩ : ∃ d, PF.dgs (5 ^ k) = d := ⟨_, rfl⟩
    rw [hl2, hd] at h3
    rw [hl2, hd]
    have hlen : l.length = d.length := by have := congrArg List.length h3; simpa using this
    refine ⟨by rw [← hlen]; simp [ByteArray.size], fun i hi => ?_⟩
    have hi2 : i < l.length := by simpa [ByteArray.size] using hi
    have h4 := congrArg (·[i]?) h3
    simp only [List.getElem?_map, List.getElem?_eq_getElem hi2, List.getElem?_eq_getElem (show i < d.length by omega), Option.map_some] at h4
    have h5 := Option.some.inj h4
    have e1 : (ByteArray.mk l.toArray)[i] = l[i] := by
      show l.toArray[i] = _
      simp
    rw [e1, h5, List.getD_eq_getElem?_getD, List.getElem?_eq_getElem (by omega)]
    rfl
theorem one_env {W : World} (h : laidMet Tryz.prog Laid.lst W) : One.Env W ∧ 15 < W.heap.size := by
  have hl : Pinned.pow10Rows.length = 696 := by decide +kernel
  have h364 := pow_of h 364 (by omega)
  have e : Pinned.pow10Rows[364]'(by omega) = (10240000000000000000, 0) := by
    have : Pinned.pow10Rows[364]? = some (10240000000000000000, 0) := by decide +kernel
    rw [List.getElem?_eq_getElem (by omega)] at this
    exact Option.some.inj this
  rw [e] at h364
  have h8 := drop_met 8 (by omega) h
  have tab_is : (Rows.laid_internal_strconv_uint64pow10 : DataW Unit) = Lib.tabData .u64 Lib.pow10Tab := by kernel_rfl
  have h9 : laidMet Tryz.prog (("internal/strconv.uint64pow10", Lib.tabData .u64 Lib.pow10Tab) :: Laid.lst.drop 9) W := by rw [← tab_is]; exact h8
  have ht := Lib.tabIs_of_head (by kernel_rfl : Tryz.prog.globalNamed "internal/strconv.uint64pow10" = some 1) (by kernel_rfl : (Tryz.prog.globals[1]?).map (·.type) = some 201) Tryz.underlying201 Tryz.underlying51 (by kernel_rfl : Tryz.prog.cellsOf 51 = 1) (by kernel_rfl) h9
  exact ⟨⟨⟨h364.1, h364.2⟩, ht⟩, World.block_lt_of_cell? W _ h364.1⟩
end Go.Proofs.YtagiddbfhlokcaaGreatDoor
/- The law ValueParses: both readers answer alike. Condition: the text's length, the tables. -/
namespace Go.Proofs.YtagiddbfhlokcaaGreatDoor
open Go.RowKit
set_option maxRecDepth 100000
theorem valP_val (T : Int → Nat × Nat) (F : Nat → Nat) (l : List UInt8) : ∃ k b t n, valP T F l = (val k b t, n) := by
  unfold valP
  split
  · exact ⟨_, _, _, _, rfl⟩
  split
  · exact ⟨_, _, _, _, rfl⟩
  split
  · exact unqV_val _
  split
  · split
    · exact ⟨_, _, _, _, rfl⟩
    · exact ⟨_, _, _, _, rfl⟩
  split
  · split
    · exact ⟨_, _, _, _, rfl⟩
    · exact ⟨_, _, _, _, rfl⟩
  · exact ⟨_, _, _, _, rfl⟩
set_option maxHeartbeats 4000000 in
theorem law6 (l : List UInt8) (hlen : l.length ≤ 140737488355328) (w : World) (hm : laidMet Tryz.prog Laid.lst w) :
    Calls Tryz.prog 6 #[.string (bs l)] w fun e w' => e = .returned (.bool true) ∧ Below w.heap.size w w' := by
  obtain ⟨B2, o2, B, o, hp⟩ := penv_of hm
  obtain ⟨tp, p, her⟩ := er_of hm
  obtain ⟨henv, h15⟩ := one_env hm
  obtain ⟨k, b, t, n, hval⟩ := valP_val (tabF TT) FF l
  have M21 := Lib.hid (fun w2 (h : Below w.heap.size w w2) => parse21 l hlen w2 (hp.below h) ((h.cell (cell_lt her)).trans her) (.inr ⟨_, _, rfl⟩))
  have M22 := Lib.hid (fun w2 (h : Below w.heap.size w w2) => parse22 l hlen w2 (hp.below h) ((h.cell (cell_lt her)).trans her) (.inr ⟨_, _, rfl⟩))
  rw [hval] at M21 M22
  unfold val at M21 M22
  simp only at M21 M22
  have MA := Lib.hid (One.awake15 w henv h15)
  clear hm hp her henv hval h15
  go_enter Tryz.func6, Tryz.ntmps6
  go_wp2_with fail
  refine MA.out.mono ?_
  rintro e w1 ⟨rfl, hb1⟩
  have HB1 := Lib.hid hb1
  clear hb1
  go_wp2_with fail
  refine (M21.out _ HB1.out).mono ?_
  rintro e w2 ⟨rfl, hb2⟩
  have HB2 := Lib.hid (HB1.out.trans (hb2.mono HB1.out.size))
  clear hb2
  have hba : Below w.heap.size w (w2.alloc (.cells #[.int .i64 k, .int .u64 b, .string t] 53 (0, 0))) := HB2.out.alloc HB2.out.size _
  have hnew := newest w2 (.cells #[.int .i64 k, .int .u64 b, .string t] 53 (0, 0))
  have hlt : w2.heap.size < (w2.alloc (.cells #[.int .i64 k, .int .u64 b, .string t] 53 (0, 0))).heap.size := by simp
  go_wp2_with fail
  obtain ⟨w3, hw3⟩ : ∃ w3, w2.alloc (.cells #[.int .i64 k, .int .u64 b, .string t] 53 (0, 0)) = w3 := ⟨_, rfl⟩
  rw [hw3] at hba hnew hlt
  have HBA := Lib.hid hba
  have HNEW := Lib.hid hnew
  have HLT := Lib.hid hlt
  clear hba hnew hlt
  rw [hw3]
  clear hw3
  refine (M22.out _ HBA.out).mono ?_
  rintro e w4 ⟨rfl, hb4⟩
  have hk : w4.heap[w2.heap.size]? = some (.cells #[.int .i64 k, .int .u64 b, .string t] 53 (0, 0)) := (hb4.block _ HLT.out).trans HNEW.out
  have HB4 := Lib.hid (HBA.out.trans (hb4.mono HBA.out.size))
  have c0 : w4.cell? ⟨w2.heap.size, 0, none⟩ = some (.int .i64 k) := Lib.cell_of_heap hk 0
  have c1 : w4.cell? ⟨w2.heap.size, 1, none⟩ = some (.int .u64 b) := Lib.cell_of_heap hk 1
  have c2 : w4.cell? ⟨w2.heap.size, 2, none⟩ = some (.string t) := Lib.cell_of_heap hk 2
  have hlt4 : w2.heap.size < w4.heap.size := Nat.lt_of_lt_of_le HLT.out hb4.size
  clear hb4 hk
  go_wp2_with fail
  go_ret
  exact ⟨rfl, HB4.out.alloc HB4.out.size _⟩
end Go.Proofs.YtagiddbfhlokcaaGreatDoor
