/- Several texts of this proof, laid together. Conditions: as each says. -/
import Derived.Test.YtagiddbfhlokcaaGreatDoorRows
import Derived.Test.YtagiddbfhlokcaaGreatDoorMAA
import Derived.Test.YtagiddbfhlokcaaGreatDoorMAC
import Derived.WalkKit
import Derived.ProofKit
import Derived.OpenShut
import Derived.Below
import Derived.WalkLawsBesides
import Derived.WalkSpells
import Derived.BigQuiet
import Derived.Lib.Hide
import Derived.Deep.AppendLies
import Derived.Lib.SmallJoins
import Derived.Deep.RegionHeld
import Derived.OwnWalk
import Derived.Lib.Bytes
import Derived.Deep.RegionLaw
/- FormatFloat's arithmetic at 1.5: the scaling. Conditions: two cells of the table of powers. -/
namespace Go.Proofs.YtagiddbfhlokcaaGreatDoor.One
open Go.RowKit
set_option maxRecDepth 100000
theorem log2 (w : World) : Calls Tryz.prog 240 #[.int .i64 16] w fun e w' => e = .returned (.int .i64 53) ∧ w' = w := by
  go_enter Tryz.func240, Tryz.ntmps240
  go_wp2
  go_ret
  exact ⟨rfl, rfl⟩
def Pow (w : World) : Prop := w.cell? ⟨15, 728, none⟩ = some (.int .u64 10240000000000000000) ∧ w.cell? ⟨15, 729, none⟩ = some (.int .u64 0)
def Pre (w : World) (b : Nat) (x y z : Value) : Prop := w.heap[b]? = some (.cells #[x, y, z] 306 (0, 0))
theorem Pre.c0 {w : World} {b : Nat} {x y z : Value} (h : Pre w b x y z) : w.cell? ⟨b, 0, none⟩ = some x := by rw [Lib.cell_of_heap h]; rfl
theorem Pre.c1 {w : World} {b : Nat} {x y z : Value} (h : Pre w b x y z) : w.cell? ⟨b, 1, none⟩ = some y := by rw [Lib.cell_of_heap h]; rfl
theorem Pre.c2 {w : World} {b : Nat} {x y z : Value} (h : Pre w b x y z) : w.cell? ⟨b, 2, none⟩ = some z := by rw [Lib.cell_of_heap h]; rfl
end Go.Proofs.YtagiddbfhlokcaaGreatDoor.One
/- FormatFloat's shortest digits at 1.5. Conditions: two cells of the table of powers. -/
namespace Go.Proofs.YtagiddbfhlokcaaGreatDoor.One
open Go.RowKit
set_option maxRecDepth 100000
theorem Pre.set0 {w : World} {b : Nat} {x y z : Value} (h : Pre w b x y z) (v : Value) : Pre (w.setCell ⟨b, 0, none⟩ v) b v y z := Joins.block_setCell (i := 0) h v
theorem Pre.set1 {w : World} {b : Nat} {x y z : Value} (h : Pre w b x y z) (v : Value) : Pre (w.setCell ⟨b, 1, none⟩ v) b x v z := Joins.block_setCell (i := 1) h v
theorem Pre.set2 {w : World} {b : Nat} {x y z : Value} (h : Pre w b x y z) (v : Value) : Pre (w.setCell ⟨b, 2, none⟩ v) b x y v := Joins.block_setCell (i := 2) h v
theorem Pow.set {w : World} {b i : Nat} (h : Pow w) (hb : 15 < b) (v : Value) : Pow (w.setCell ⟨b, i, none⟩ v) :=
  ⟨by rw [World.cell?_setCell_far _ _ _ _ (by simp; omega)]; exact h.1, by rw [World.cell?_setCell_far _ _ _ _ (by simp; omega)]; exact h.2⟩
end Go.Proofs.YtagiddbfhlokcaaGreatDoor.One
/- setDigits at 1.5's digits. No condition but the row of 32 noughts. -/
namespace Go.Proofs.YtagiddbfhlokcaaGreatDoor.One
open Go.RowKit Go.Sort
set_option maxRecDepth 100000
def encB (b : UInt8) : Value := Value.int .u8 (b.toNat : Int)
theorem dgs : ∀ t : Fin 16, Lib.dg 1500000000000000 (15 - t.val) = (if t.val = 0 then 49 else if t.val = 1 then 53 else 48) := by decide +kernel
end Go.Proofs.YtagiddbfhlokcaaGreatDoor.One
/- fmtEFG at 1.5's digits. No condition. -/
namespace Go.Proofs.YtagiddbfhlokcaaGreatDoor.One
open Go.RowKit
set_option maxRecDepth 100000
theorem info5 : (Tryz.prog.info? 5).map (fun i => (i.zero, i.size, i.bytes)) = some (some (.int .u8 0), 1, 1) := by kernel_rfl
structure St (w0 : World) (g b : Nat) (l : List UInt8) (w : World) : Prop where
  own : w.ownsRow g 5 1 (.slice (some ⟨g, 0, none⟩) l.length 24) l.length (Lib.byteCells l)
  c0 : w.cell? ⟨b, 0, none⟩ = some (.int .u8 49)
  c1 : w.cell? ⟨b, 1, none⟩ = some (.int .u8 53)
  bel : Below g w0 w
  gb : g < b
  bw : b < w.heap.size
theorem byteCells_app (l m : List UInt8) : Lib.byteCells (l ++ m) = Lib.byteCells l ++ Lib.byteCells m := by simp [Lib.byteCells]
theorem St.app1 {w0 w w2 : World} {g b : Nat} {l : List UInt8} (h : St w0 g b l w) (m : List UInt8) (hown : w2.ownsRow g 5 1 (.slice (some ⟨g, 0, none⟩) (l.length + m.length) 24) (l.length + m.length) (Lib.byteCells l ++ Lib.byteCells m)) (hg : w.grownBy w2 (some g)) : St w0 g b (l ++ m) w2 := by
  have hbk : w2.heap[b]? = w.heap[b]? := hg.block b h.bw (fun e => by have := h.gb; cases e; omega)
  refine ⟨by rw [List.length_append, byteCells_app]; exact hown, ?_, ?_, ?_, h.gb, Nat.lt_of_lt_of_le h.bw hg.size⟩
  · rw [World.cell?_of_block hbk]; exact h.c0
  · rw [World.cell?_of_block hbk]; exact h.c1
  · exact h.bel.grown hg (by have := h.gb; have := h.bw; omega) (fun j hj => by cases hj; exact Nat.le_refl _)
theorem St.alloc {w0 w : World} {g b : Nat} {l : List UInt8} (h : St w0 g b l w) (o : Obj) : St w0 g b l (w.alloc o) := by
  have hb := (Below.refl w.heap.size w).alloc (Nat.le_refl _) o
  refine ⟨World.ownsRow.alloc h.own _, ?_, ?_, ?_, h.gb, Nat.lt_of_lt_of_le h.bw hb.size⟩
  · rw [hb.cell (p := ⟨b, 0, none⟩) h.bw]; exact h.c0
  · rw [hb.cell (p := ⟨b, 1, none⟩) h.bw]; exact h.c1
  · exact h.bel.alloc (by have := h.gb; have := h.bw; omega) o
theorem St.app {w0 w w2 : World} {g b : Nat} {l : List UInt8} {o : Obj} (h : St w0 g b l w) (m : List UInt8) (hown : w2.ownsRow g 5 1 (.slice (some ⟨g, 0, none⟩) (l.length + m.length) 24) (l.length + m.length) (Lib.byteCells l ++ Lib.byteCells m)) (hg : (w.alloc o).grownBy w2 (some g)) : St w0 g b (l ++ m) w2 := (h.alloc o).app1 m hown hg
end Go.Proofs.YtagiddbfhlokcaaGreatDoor.One
/- fmtEFG at 1.5's digits, by 'f'. No condition. -/
namespace Go.Proofs.YtagiddbfhlokcaaGreatDoor.One
open Go.RowKit
set_option maxRecDepth 100000
end Go.Proofs.YtagiddbfhlokcaaGreatDoor.One
/- ftoa64 at 1.5. Conditions: the cells of the two tables of powers. -/
namespace Go.Proofs.YtagiddbfhlokcaaGreatDoor.One
open Go.RowKit Go.Sort
set_option maxRecDepth 100000
structure Env (w : World) : Prop where
  pow : Pow w
  tab : Lib.TabIs Tryz.prog w "internal/strconv.uint64pow10" .u64 Lib.pow10Tab
theorem Env.later {w w' : World} {B : Nat} (h : Env w) (hb : Below B w w') (h8 : 15 < B) : Env w' := by
  refine ⟨⟨(hb.cell (p := ⟨15, 728, none⟩) h8).trans h.pow.1, (hb.cell (p := ⟨15, 729, none⟩) h8).trans h.pow.2⟩, ?_⟩
  have ht := h.tab
  have hg : Tryz.prog.globalNamed "internal/strconv.uint64pow10" = some 1 := by kernel_rfl
  unfold Lib.TabIs World.var? at ht ⊢
  rw [hg] at ht ⊢
  simp only [Option.bind_some] at ht ⊢
  rw [hb.block 1 (by omega)]
  exact ht
theorem Env.drew {w : World} (h : Env w) : Env w.drew := ⟨⟨h.pow.1, h.pow.2⟩, h.tab⟩
def zeros32 : Array Value := #[.int .u8 0, .int .u8 0, .int .u8 0, .int .u8 0, .int .u8 0, .int .u8 0, .int .u8 0, .int .u8 0, .int .u8 0, .int .u8 0, .int .u8 0, .int .u8 0, .int .u8 0, .int .u8 0, .int .u8 0, .int .u8 0, .int .u8 0, .int .u8 0, .int .u8 0, .int .u8 0, .int .u8 0, .int .u8 0, .int .u8 0, .int .u8 0, .int .u8 0, .int .u8 0, .int .u8 0, .int .u8 0, .int .u8 0, .int .u8 0, .int .u8 0, .int .u8 0]
theorem own_later {w w' : World} {base e size n cap g : Nat} {xs : List Value} (h : w.ownsRow base e size (.slice (some ⟨g, 0, none⟩) n cap) n xs) (hb : Below w.heap.size w w') : w'.ownsRow base e size (.slice (some ⟨g, 0, none⟩) n cap) n xs :=
  h.kept (row := none) ⟨hb.os, hb.tape, hb.output, hb.size, fun k hk _ => hb.block k hk⟩ (.inr (by simp [Value.ownBlock]))
end Go.Proofs.YtagiddbfhlokcaaGreatDoor.One
/- FormatFloat at 1.5. Conditions: the cells of the two tables of powers. -/
namespace Go.Proofs.YtagiddbfhlokcaaGreatDoor.One
open Go.RowKit
set_option maxRecDepth 100000
theorem str_of_own {w : World} {base : Nat} {v : Value} (l : List UInt8) (h : w.ownsRow base 5 1 v l.length (Lib.byteCells l)) : (convert 59 9 v).run Tryz.prog w = .ok (.string ⟨l.toArray⟩) w := by
  rcases h.2 with ⟨rfl, h0⟩ | ⟨g, cap, cur, rfl, _⟩
  · have : l = [] := List.length_eq_zero_iff.1 h0
    subst this
    rw [run_convert_bytes_string w 59 9 5 none 0 0 Tryz.underlying59 Tryz.underlying5 Tryz.underlying9]
    rfl
  · refine run_convert_bytes_back w 59 9 5 ⟨g, 0, none⟩ cap l Tryz.underlying59 Tryz.underlying5 Tryz.underlying9 fun j hj => ?_
    have := h.cellAt j (by omega)
    have e : (Addr.add ⟨g, 0, none⟩ j) = ⟨g, j, none⟩ := by unfold Addr.add; split <;> simp_all
    rw [e, this]
    simp [Lib.byteCells, hj]

end Go.Proofs.YtagiddbfhlokcaaGreatDoor.One
