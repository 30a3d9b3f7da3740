/- ftoa64 at 1.5. Conditions: the cells of the two tables of powers. -/
import Derived.Test.YtnnoefbmoafbnaaGreatDoorE
import Derived.Deep.RegionLaw
namespace Go.Proofs.YtnnoefbmoafbnaaGreatDoor
open Go.RowKit Go.Sort
set_option maxRecDepth 100000
structure Env (w : World) : Prop where
  pow : Pow w
  tab : Lib.TabIs Tryz.prog w "internal/strconv.uint64pow10" .u64 Lib.pow10Tab
theorem Env.later {w w' : World} {B : Nat} (h : Env w) (hb : Below B w w') (h8 : 8 < B) : Env w' := by
  refine ⟨⟨(hb.cell (p := ⟨8, 728, none⟩) h8).trans h.pow.1, (hb.cell (p := ⟨8, 729, none⟩) h8).trans h.pow.2⟩, ?_⟩
  have ht := h.tab
  have hg : Tryz.prog.globalNamed "internal/strconv.uint64pow10" = some 1 := by kernel_rfl
  unfold Lib.TabIs World.var? at ht ⊢
  rw [hg] at ht ⊢
  simp only [Option.bind_some] at ht ⊢
  rw [hb.block 1 (by omega)]
  exact ht
theorem Env.drew {w : World} (h : Env w) : Env w.drew := ⟨⟨h.pow.1, h.pow.2⟩, h.tab⟩
theorem bits65 (w : World) : (callFunc 65 #[.float .f64 4609434218613702656]).run Tryz.prog w = .ok (.value (.int .u64 4609434218613702656)) w := by
  rw [run_callFunc_extern (e := Extern.MathFloatBits.float64bits) Tryz.func65 (by kernel_rfl) (by kernel_rfl) (by kernel_rfl) (by kernel_rfl)]
  rfl
theorem len15 (w : World) : Calls Tryz.prog 50 #[.int .u64 6755399441055744] w fun e w' => e = .returned (.int .i64 53) ∧ w = w' := by
  refine (Tryz.bits_Len64 6755399441055744 w (by omega) (by omega)).mono ?_
  rintro e w' ⟨rfl, h⟩
  exact ⟨by rw [show Lib.bitLen (Int.toNat 6755399441055744) = 53 by decide +kernel]; rfl, h.symm⟩
theorem num15 (w : World) (h : Env w) : Calls Tryz.prog 35 #[.int .u64 1500000000000000] w fun e w' => e = .returned (.int .i64 16) ∧ w = w' := by
  refine (Tryz.internal_strconv_numDigits 1500000000000000 (by omega) (by omega) w h.tab).mono ?_
  rintro e w' ⟨rfl, h⟩
  exact ⟨by rw [show Lib.nDigits 1500000000000000 = 16 by decide +kernel]; rfl, h.symm⟩
def zeros32 : Array Value := #[.int .u8 0, .int .u8 0, .int .u8 0, .int .u8 0, .int .u8 0, .int .u8 0, .int .u8 0, .int .u8 0, .int .u8 0, .int .u8 0, .int .u8 0, .int .u8 0, .int .u8 0, .int .u8 0, .int .u8 0, .int .u8 0, .int .u8 0, .int .u8 0, .int .u8 0, .int .u8 0, .int .u8 0, .int .u8 0, .int .u8 0, .int .u8 0, .int .u8 0, .int .u8 0, .int .u8 0, .int .u8 0, .int .u8 0, .int .u8 0, .int .u8 0, .int .u8 0]
theorem holds_zeros (w : World) (b : Nat) (h : w.heap[b]? = some (.cells zeros32 118 (0, 0))) : Holds encB w b 0 (Array.replicate 16 0) := by
  intro j hj
  have hj' : j < 16 := by simpa using hj
  refine ⟨?_, Lib.frozen_of_heap h _⟩
  rw [Lib.cell_of_heap h]
  have e : zeros32 = Array.replicate 32 (.int .u8 0) := rfl
  rw [e, Array.getElem?_replicate, if_pos (by omega)]
  simp [encB, hj']
theorem own_later {w w' : World} {base e size n cap g : Nat} {xs : List Value} (h : w.ownsRow base e size (.slice (some ⟨g, 0, none⟩) n cap) n xs) (hb : Below w.heap.size w w') : w'.ownsRow base e size (.slice (some ⟨g, 0, none⟩) n cap) n xs :=
  h.kept (row := none) ⟨hb.os, hb.tape, hb.output, hb.size, fun k hk _ => hb.block k hk⟩ (.inr (by simp [Value.ownBlock]))
theorem ftoa15e (w0 : World) (g : Nat) (hown : w0.ownsRow g 5 1 (.slice (some ⟨g, 0, none⟩) 0 24) 0 []) (hg : 8 < g) (henv : Env w0) :
    Calls Tryz.prog 43 #[.slice (some ⟨g, 0, none⟩) 0 24, .float .f64 4609434218613702656, .int .u8 101, .int .i64 (-1)] w0 fun e w' => e = .returned (.slice (some ⟨g, 0, none⟩) 7 24) ∧ w'.ownsRow g 5 1 (.slice (some ⟨g, 0, none⟩) 7 24) 7 (Lib.byteCells [49, 46, 53, 101, 43, 48, 48]) ∧ Below g w0 w' := by
  have h65 := bits65
  have b1 : bits BinOp.and IntKind.u64 4609434218613702656 4503599627370495 = 2251799813685248 := by kernel_rfl
  have b2 : bits BinOp.or IntKind.u64 2251799813685248 4503599627370496 = 6755399441055744 := by kernel_rfl
  have mm4 : max (1 : Int) 0 = 1 := by decide
  have b3 : bits BinOp.and IntKind.i64 1023 2047 = 1023 := by kernel_rfl
  have hgs := (hown.lt g rfl).2
  have hbA := fun n => (below_drewN (Below.refl w0.heap.size w0) n).alloc (Nat.le_refl _) (.cells zeros32 118)
  have henvA := fun n => henv.later (hbA n) (by omega)
  have hzA : ∀ n, ((w0.drewN n).alloc (.cells zeros32 118)).heap[w0.heap.size]? = some (.cells zeros32 118 (0, 0)) := fun n => heap_alloc_new (w0.drewN n) _
  have HBA := Lib.hid hbA
  have HEA := Lib.hid henvA
  have HZA := Lib.hid hzA
  have HG := Lib.hid hgs
  clear hbA henvA hzA hgs
  have HO := Lib.hid hown
  have HE := Lib.hid henv
  clear hown henv
  go_enter Tryz.func43, Tryz.ntmps43
  go_wp2
  go_quiet (fail)
  go_wp2_with fail
  refine (len15 _).mono ?_
  rintro e w1 ⟨rfl, rfl⟩
  go_wp2_with fail
  refine (short15 _ (HEA.out nq).pow (by have := HG.out; simp; omega)).mono ?_
  rintro e w2 ⟨rfl, hb2⟩
  have HB2 := Lib.hid ((HBA.out nq).trans (hb2.mono (by simp)))
  have HZ2 := Lib.hid ((hb2.block w0.heap.size (by simp)).trans (HZA.out nq))
  have HB2S := Lib.hid hb2
  have HE2 := Lib.hid ((HEA.out nq).later hb2 (by have := HG.out; simp; omega))
  have HG8 := Lib.hid (show 8 < ((w0.drewN nq).alloc (.cells zeros32 118)).heap.size by have := HG.out; simp; omega)
  have HH := Lib.hid (holds_zeros w2.drew w0.heap.size HZ2.out)
  clear hb2
  go_wp2_with fail
  go_region_law (first
    | (go_simp; go_at_call 35; refine (num15 _ (HE2.out.drew)).mono ?_; rintro e w' ⟨rfl, rfl⟩)
    | (go_simp; go_at_call 70; refine (setDigits15 _ _ HH.out).mono ?_; rintro e w3 ⟨rfl, hc, hb3⟩))
  have hb4 : Below w0.heap.size w0 w3 := HB2.out.trans (show Below w0.heap.size w2 w3 from ⟨hb3.os, hb3.tape, hb3.output, hb3.size, hb3.block⟩)
  have hsz : w0.heap.size < w3.heap.size := by have h1 := HB2S.out.size; have h2 := hb3.size; simp at h1 h2; omega
  have HST := Lib.hid (show St w0 g w0.heap.size [] w3 from ⟨own_later HO.out hb4, hc.1, hc.2, hb4.mono (Nat.le_of_lt HG.out), HG.out, hsz⟩)
  clear hc hb3 hb4 hsz
  go_wp2_with (go_at_call 68; go_must (refine (efg15e _ _ _ _ HST.out).mono ?_); rintro e w4 ⟨rfl, h4⟩)
  go_ret
  exact ⟨rfl, h4.own, h4.bel⟩
theorem ftoa15f (w0 : World) (g : Nat) (hown : w0.ownsRow g 5 1 (.slice (some ⟨g, 0, none⟩) 0 24) 0 []) (hg : 8 < g) (henv : Env w0) :
    Calls Tryz.prog 43 #[.slice (some ⟨g, 0, none⟩) 0 24, .float .f64 4609434218613702656, .int .u8 102, .int .i64 (-1)] w0 fun e w' => e = .returned (.slice (some ⟨g, 0, none⟩) 3 24) ∧ w'.ownsRow g 5 1 (.slice (some ⟨g, 0, none⟩) 3 24) 3 (Lib.byteCells [49, 46, 53]) ∧ Below g w0 w' := by
  have h65 := bits65
  have b1 : bits BinOp.and IntKind.u64 4609434218613702656 4503599627370495 = 2251799813685248 := by kernel_rfl
  have b2 : bits BinOp.or IntKind.u64 2251799813685248 4503599627370496 = 6755399441055744 := by kernel_rfl
  have mm4 : max (1 : Int) 0 = 1 := by decide
  have b3 : bits BinOp.and IntKind.i64 1023 2047 = 1023 := by kernel_rfl
  have hgs := (hown.lt g rfl).2
  have hbA := fun n => (below_drewN (Below.refl w0.heap.size w0) n).alloc (Nat.le_refl _) (.cells zeros32 118)
  have henvA := fun n => henv.later (hbA n) (by omega)
  have hzA : ∀ n, ((w0.drewN n).alloc (.cells zeros32 118)).heap[w0.heap.size]? = some (.cells zeros32 118 (0, 0)) := fun n => heap_alloc_new (w0.drewN n) _
  have HBA := Lib.hid hbA
  have HEA := Lib.hid henvA
  have HZA := Lib.hid hzA
  have HG := Lib.hid hgs
  clear hbA henvA hzA hgs
  have HO := Lib.hid hown
  have HE := Lib.hid henv
  clear hown henv
  go_enter Tryz.func43, Tryz.ntmps43
  go_wp2
  go_quiet (fail)
  go_wp2_with fail
  refine (len15 _).mono ?_
  rintro e w1 ⟨rfl, rfl⟩
  go_wp2_with fail
  refine (short15 _ (HEA.out nq).pow (by have := HG.out; simp; omega)).mono ?_
  rintro e w2 ⟨rfl, hb2⟩
  have HB2 := Lib.hid ((HBA.out nq).trans (hb2.mono (by simp)))
  have HZ2 := Lib.hid ((hb2.block w0.heap.size (by simp)).trans (HZA.out nq))
  have HB2S := Lib.hid hb2
  have HE2 := Lib.hid ((HEA.out nq).later hb2 (by have := HG.out; simp; omega))
  have HG8 := Lib.hid (show 8 < ((w0.drewN nq).alloc (.cells zeros32 118)).heap.size by have := HG.out; simp; omega)
  have HH := Lib.hid (holds_zeros w2.drew w0.heap.size HZ2.out)
  clear hb2
  go_wp2_with fail
  go_region_law (first
    | (go_simp; go_at_call 35; refine (num15 _ (HE2.out.drew)).mono ?_; rintro e w' ⟨rfl, rfl⟩)
    | (go_simp; go_at_call 70; refine (setDigits15 _ _ HH.out).mono ?_; rintro e w3 ⟨rfl, hc, hb3⟩))
  have hb4 : Below w0.heap.size w0 w3 := HB2.out.trans (show Below w0.heap.size w2 w3 from ⟨hb3.os, hb3.tape, hb3.output, hb3.size, hb3.block⟩)
  have hsz : w0.heap.size < w3.heap.size := by have h1 := HB2S.out.size; have h2 := hb3.size; simp at h1 h2; omega
  have HST := Lib.hid (show St w0 g w0.heap.size [] w3 from ⟨own_later HO.out hb4, hc.1, hc.2, hb4.mono (Nat.le_of_lt HG.out), HG.out, hsz⟩)
  clear hc hb3 hb4 hsz
  go_wp2_with (go_at_call 68; go_must (refine (efg15f _ _ _ _ HST.out).mono ?_); rintro e w4 ⟨rfl, h4⟩)
  go_ret
  exact ⟨rfl, h4.own, h4.bel⟩
end Go.Proofs.YtnnoefbmoafbnaaGreatDoor