/- Several texts of this proof, laid together. Conditions: as each says. -/
import Derived.Test.YtagiddbfhlokcaaGreatDoorVBK
import Derived.Test.YtagiddbfhlokcaaGreatDoorVBC
/- The reference's way to put a row in order: the walk. No condition. -/
namespace Go.Proofs.YtagiddbfhlokcaaGreatDoor.Ser
open Go.RowKit Go.Sort
set_option maxRecDepth 100000
theorem grown_set (w : World) (a : Addr) (u : Value) {g : Nat} (h : a.block = g) : w.grownBy (w.setCell a u) (some g) :=
  ⟨rfl, rfl, rfl, by simp [World.setCell], fun k hk hne => Below.heap_setCell _ _ _ _ (fun e => hne (by rw [e, h]))⟩
theorem grown_trans {a b c : World} {r : Option Nat} (h : a.grownBy b r) (k : b.grownBy c r) : a.grownBy c r :=
  ⟨k.os.trans h.os, k.tape.trans h.tape, k.output.trans h.output, Nat.le_trans h.size k.size, fun i hi hn => (k.block i (Nat.lt_of_lt_of_le hi h.size) hn).trans (h.block i hi hn)⟩
structure SMem (B : Nat) (name : ByteArray) (tags : List Tg) (fields : List Fd) (v vf : Value) (tm : Int) (w wr : World) : Prop where
  base : B ≤ w.heap.size
  box : wr.heap[w.heap.size]? = some (.cells #[.string name, v, vf, .int .i64 tm] 27 (0, 0))
  res : wr.heap[w.heap.size + 1]? = some (.cells #[.string ⟨#[]⟩, .slice none 0 0, .slice none 0 0, .int .i64 0] 27 (0, 0))
  rt : RT wr B v tags
  rf : RF wr B vf fields
  lt : ∀ g, v.ownBlock = some g → g < w.heap.size
  lf : ∀ g, vf.ownBlock = some g → g < w.heap.size
  ap : ∀ g, v.ownBlock = some g → vf.ownBlock ≠ some g
  bel : Below B w wr
section
variable {B : Nat} {name : ByteArray} {tags : List Tg} {fields : List Fd} {v vf : Value} {tm : Int} {w wr : World}
theorem SMem.size (h : SMem B name tags fields v vf tm w wr) : w.heap.size + 1 < wr.heap.size := lt_of_block h.res
theorem SMem.start (hb : B ≤ w.heap.size) (hrt : RT w B v tags) (hrf : RF w B vf fields) (hap : ∀ g, v.ownBlock = some g → vf.ownBlock ≠ some g) :
    SMem B name tags fields v vf tm w ((w.alloc (.cells #[.string name, v, vf, .int .i64 tm] 27)).alloc (.cells #[.string ⟨#[]⟩, .slice none 0 0, .slice none 0 0, .int .i64 0] 27)) := by
  have h1 : Below w.heap.size w ((w.alloc (.cells #[.string name, v, vf, .int .i64 tm] 27)).alloc (.cells #[.string ⟨#[]⟩, .slice none 0 0, .slice none 0 0, .int .i64 0] 27)) := ((Below.refl _ _).alloc (Nat.le_refl _) _).alloc (by simp) _
  refine ⟨hb, ?_, ?_, own_later hrt h1, own_later hrf h1, fun g hg => (hrt.lt g hg).2, fun g hg => (hrf.lt g hg).2, hap, h1.mono hb⟩
  · rw [Below.heap_alloc _ _ _ (by simp)]; exact Array.getElem?_push_size
  · have : (w.alloc (.cells #[.string name, v, vf, .int .i64 tm] 27)).heap.size = w.heap.size + 1 := by simp
    rw [← this]; exact Array.getElem?_push_size
theorem SMem.later {w' : World} (h : SMem B name tags fields v vf tm w wr) (hb : Below wr.heap.size wr w') : SMem B name tags fields v vf tm w w' :=
  ⟨h.base, (hb.block _ (lt_of_block h.box)).trans h.box, (hb.block _ (lt_of_block h.res)).trans h.res, own_later h.rt hb, own_later h.rf hb, h.lt, h.lf, h.ap, h.bel.trans (hb.mono (by have := h.size; have := h.base; omega))⟩
theorem SMem.cells (h : SMem B name tags fields v vf tm w wr) :
    wr.cell? ⟨w.heap.size, 0, none⟩ = some (.string name) ∧ wr.cell? ⟨w.heap.size, 1, none⟩ = some v ∧ wr.cell? ⟨w.heap.size, 2, none⟩ = some vf ∧ wr.cell? ⟨w.heap.size, 3, none⟩ = some (.int .i64 tm) :=
  ⟨Lib.cell_of_heap h.box 0, Lib.cell_of_heap h.box 1, Lib.cell_of_heap h.box 2, Lib.cell_of_heap h.box 3⟩
end
/-- Rows put in order: what the reference answers. -/
def RowPostB (o : LR) (B : Nat) (w : World) (e : Ending) (w' : World) : Prop :=
  Below B w w' ∧ match o.2 with
    | none => e = .returned (.tuple #[.agg #[.string ⟨#[]⟩, .slice none 0 0, .slice none 0 0, .int .i64 0], .int .i64 o.1])
    | some r => ∃ v vf, e = .returned (.tuple #[.agg #[.string r.1, v, vf, .int .i64 r.2.2.2], .int .i64 o.1]) ∧ RT w' B v r.2.1 ∧ RF w' B vf r.2.2.1 ∧ ∀ g, v.ownBlock = some g → vf.ownBlock ≠ some g
end Go.Proofs.YtagiddbfhlokcaaGreatDoor.Ser
/- A name that ends with a sign, by the reference. Condition: the text's length. -/
namespace Go.Proofs.YtagiddbfhlokcaaGreatDoor.Ser
open Go.RowKit Go.Sort
set_option maxRecDepth 100000
end Go.Proofs.YtagiddbfhlokcaaGreatDoor.Ser
/- Reading a line by the program: the fields. Conditions: the text's length; the readers of values. -/
namespace Go.Proofs.YtagiddbfhlokcaaGreatDoor.Ser
open Go.RowKit Go.Sort
set_option maxRecDepth 100000
section
variable {V : List UInt8 → Value × Int} {now : Int} {n : Nat} {acc : List Fd} {r kb r1 : List UInt8}
end
theorem wp_gen {P : Program} {c : Code} {Q : Exit → Act → World → Prop} {a : Act} {W : World} (R : World → Prop) (h : R W) (k : ∀ w, R w → Code.wp P c Q a w) : Code.wp P c Q a W := k W h
end Go.Proofs.YtagiddbfhlokcaaGreatDoor.Ser
