/- FormatFloat's shortest digits at 1.5. Conditions: two cells of the table of powers. -/
import Derived.Test.YtnnoefbmoafbnaaGreatDoorA
import Derived.Lib.SmallJoins
import Derived.Deep.RegionHeld
namespace Go.Proofs.YtnnoefbmoafbnaaGreatDoor
open Go.RowKit
set_option maxRecDepth 100000
theorem Pre.set0 {w : World} {b : Nat} {x y z : Value} (h : Pre w b x y z) (v : Value) : Pre (w.setCell ⟨b, 0, none⟩ v) b v y z := Joins.block_setCell (i := 0) h v
theorem Pre.set1 {w : World} {b : Nat} {x y z : Value} (h : Pre w b x y z) (v : Value) : Pre (w.setCell ⟨b, 1, none⟩ v) b x v z := Joins.block_setCell (i := 1) h v
theorem Pre.set2 {w : World} {b : Nat} {x y z : Value} (h : Pre w b x y z) (v : Value) : Pre (w.setCell ⟨b, 2, none⟩ v) b x y v := Joins.block_setCell (i := 2) h v
theorem Pow.set {w : World} {b i : Nat} (h : Pow w) (hb : 8 < b) (v : Value) : Pow (w.setCell ⟨b, i, none⟩ v) :=
  ⟨by rw [World.cell?_setCell_far _ _ _ _ (by simp; omega)]; exact h.1, by rw [World.cell?_setCell_far _ _ _ _ (by simp; omega)]; exact h.2⟩
theorem prescale15 (w : World) (b : Nat) (x y z : Value) (h : Pre w b x y z) (hp : Pow w) (hb : 8 < b) :
    Calls Tryz.prog 93 #[.pointer (some ⟨b, 0, none⟩), .int .i64 (-63), .int .i64 16, .int .i64 53] w fun e w' => e = .returned (.tuple #[]) ∧ Pre w' b (.int .u64 10240000000000000000) (.int .u64 0) (.int .i64 7) ∧ Below b w w' := by
  have p0 := hp.1
  have c0 := h.c0
  have h1 := h.set0 (.int .u64 10240000000000000000)
  have p1 := (hp.set (i := 0) hb (.int .u64 10240000000000000000)).2
  have c1 := h1.c1
  have h2 := h1.set1 (.int .u64 0)
  have c2 := h2.c2
  have f0 := Lib.frozen_of_heap h 0
  have f1 := Lib.frozen_of_heap h1 1
  have f2 := Lib.frozen_of_heap h2 2
  have H3 := Lib.hid (h2.set2 (.int .i64 7))
  clear h h1 h2 hp
  go_enter Tryz.func93, Tryz.ntmps93
  go_wp2
  go_end0
  exact ⟨rfl, H3.out, (((Below.refl b w).setCell (p := ⟨b, 0, none⟩) (Nat.le_refl _) _).setCell (p := ⟨b, 1, none⟩) (Nat.le_refl _) _).setCell (p := ⟨b, 2, none⟩) (Nat.le_refl _) _⟩
theorem short15 (w : World) (hp : Pow w) (h8 : 8 < w.heap.size) :
    Calls Tryz.prog 75 #[.int .u64 13835058055282163712, .int .i64 (-63)] w fun e w' => e = .returned (.tuple #[.int .u64 1500000000000000, .int .i64 (-15)]) ∧ Below w.heap.size w w' := by
  have hpre : Pre (w.alloc (.cells #[.int .u64 0, .int .u64 0, .int .i64 0] 156)) w.heap.size (.int .u64 0) (.int .u64 0) (.int .i64 0) := heap_alloc_new w _
  have hpow : Pow (w.alloc (.cells #[.int .u64 0, .int .u64 0, .int .i64 0] 156)) := ⟨((Below.refl _ _).alloc (Nat.le_refl _) _).cell (p := ⟨8, 728, none⟩) h8 |>.trans hp.1, ((Below.refl _ _).alloc (Nat.le_refl _) _).cell (p := ⟨8, 729, none⟩) h8 |>.trans hp.2⟩
  have HPRE := Lib.hid hpre
  have HPOW := Lib.hid hpow
  have H8 := Lib.hid h8
  clear hpre hpow hp h8
  have a1 : bits BinOp.and IntKind.i64 6755399441055744 1 = 0 := by kernel_rfl
  go_enter Tryz.func75, Tryz.ntmps75
  go_wp2_with fail
  refine (log10 _).mono ?_
  rintro e w' ⟨rfl, hw⟩
  obtain rfl := hw.symm
  clear hw
  go_wp2_with fail
  refine (log2 _).mono ?_
  rintro e w' ⟨rfl, hw⟩
  obtain rfl := hw.symm
  clear hw
  go_wp2_with fail
  refine (prescale15 _ _ _ _ _ HPRE.out HPOW.out H8.out).mono ?_
  rintro e w1 ⟨rfl, h1, hb1⟩
  have H1 := Lib.hid h1
  have HB := Lib.hid (((Below.refl w.heap.size w).alloc (Nat.le_refl _) _).trans hb1)
  clear h1 hb1
  go_wp2_with fail
  refine (uscaleLo _ _ _ H1.out).mono ?_
  rintro e w' ⟨rfl, hw⟩
  obtain rfl := hw.symm
  clear hw
  go_wp2_with fail
  refine (nudge0 59999999999999995 _ (.inl rfl)).mono ?_
  rintro e w' ⟨rfl, hw⟩
  obtain rfl := hw.symm
  clear hw
  go_wp2_with fail
  refine (ceil15 _).mono ?_
  rintro e w' ⟨rfl, hw⟩
  obtain rfl := hw.symm
  clear hw
  go_wp2_with fail
  refine (uscaleHi _ _ _ H1.out).mono ?_
  rintro e w' ⟨rfl, hw⟩
  obtain rfl := hw.symm
  clear hw
  go_wp2_with fail
  refine (nudge0 60000000000000005 _ (.inr rfl)).mono ?_
  rintro e w' ⟨rfl, hw⟩
  obtain rfl := hw.symm
  clear hw
  go_wp2_with fail
  refine (floor15 _).mono ?_
  rintro e w' ⟨rfl, hw⟩
  obtain rfl := hw.symm
  clear hw
  go_wp2_with fail
  go_ret2
  exact ⟨rfl, HB.out⟩
end Go.Proofs.YtnnoefbmoafbnaaGreatDoor
