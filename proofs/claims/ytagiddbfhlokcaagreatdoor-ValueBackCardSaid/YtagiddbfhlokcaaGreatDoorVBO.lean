/- Reading a line by the reference: its memory, and the plain law of its steps. No condition. -/
import Derived.Test.YtagiddbfhlokcaaGreatDoorVBM
import Derived.Test.YtagiddbfhlokcaaGreatDoorVBN
namespace Go.Proofs.YtagiddbfhlokcaaGreatDoor.Ser
open Go.RowKit Go.Sort
set_option maxRecDepth 100000
structure QMem (name : ByteArray) (tags : List Tg) (fields : List Fd) (v vf : Value) (tm : Int) (w wr : World) : Prop where
  res : wr.heap[w.heap.size]? = some (.cells #[.string ⟨#[]⟩, .slice none 0 0, .slice none 0 0, .int .i64 0] 27 (0, 0))
  non : wr.heap[w.heap.size + 1]? = some (.cells #[.string ⟨#[]⟩, .slice none 0 0, .slice none 0 0, .int .i64 0] 27 (0, 0))
  row : wr.heap[w.heap.size + 2]? = some (.cells #[.string name, v, vf, .int .i64 tm] 27 (0, 0))
  rt : RT wr (w.heap.size + 3) v tags
  rf : RF wr (w.heap.size + 3) vf fields
  ap : ∀ g, v.ownBlock = some g → vf.ownBlock ≠ some g
  bel : Below w.heap.size w wr
section
variable {name : ByteArray} {tags : List Tg} {fields : List Fd} {v vf : Value} {tm : Int} {w wr w' : World}
theorem QMem.size (h : QMem name tags fields v vf tm w wr) : w.heap.size + 2 < wr.heap.size := lt_of_block h.row
theorem QMem.later (h : QMem name tags fields v vf tm w wr) (hb : Below wr.heap.size wr w') : QMem name tags fields v vf tm w w' :=
  ⟨(hb.block _ (lt_of_block h.res)).trans h.res, (hb.block _ (lt_of_block h.non)).trans h.non, (hb.block _ (lt_of_block h.row)).trans h.row, own_later h.rt hb, own_later h.rf hb, h.ap, h.bel.trans (hb.mono h.bel.size)⟩
theorem QMem.cells (h : QMem name tags fields v vf tm w wr) :
    wr.cell? ⟨w.heap.size + 1 + 1, 0, none⟩ = some (.string name) ∧ wr.cell? ⟨w.heap.size + 1 + 1, 1, none⟩ = some v ∧ wr.cell? ⟨w.heap.size + 1 + 1, 2, none⟩ = some vf ∧ wr.cell? ⟨w.heap.size + 1 + 1, 3, none⟩ = some (.int .i64 tm) :=
  ⟨Lib.cell_of_heap h.row 0, Lib.cell_of_heap h.row 1, Lib.cell_of_heap h.row 2, Lib.cell_of_heap h.row 3⟩
/-- Behind 'sorted'. -/
theorem QMem.fin {R : LR} {e : Ending} (h : QMem name tags fields v vf tm w wr) (hp : RowPostB R (w.heap.size + 3) wr e w') :
    ∃ nm a n c a' n' c' t er, e = .returned (.tuple #[.agg #[.string nm, .slice a n c, .slice a' n' c', .int .i64 t], .int .i64 er]) ∧ w'.heap[w.heap.size]? = some (.cells #[.string ⟨#[]⟩, .slice none 0 0, .slice none 0 0, .int .i64 0] 27 (0, 0)) ∧
      RowPost R w (.returned (.tuple #[.agg #[.string nm, .slice a n c, .slice a' n' c', .int .i64 t], .int .i64 er])) ((((w'.setCell ⟨w.heap.size, 0, none⟩ (.string nm)).setCell ⟨w.heap.size, 1, none⟩ (.slice a n c)).setCell ⟨w.heap.size, 2, none⟩ (.slice a' n' c')).setCell ⟨w.heap.size, 3, none⟩ (.int .i64 t)) := by
  obtain ⟨hb, hm⟩ := hp
  have hb2 := h.bel.trans (hb.mono (by omega))
  have hr := (hb.block w.heap.size (by omega)).trans h.res
  cases ho : R.2 with
  | none =>
    rw [ho] at hm
    simp only at hm
    subst hm
    exact ⟨_, _, _, _, _, _, _, _, _, rfl, hr, below_four _ _ _ _ hb2, by rw [ho]⟩
  | some r =>
    rw [ho] at hm
    obtain ⟨v1, v2, rfl, h1, h2, h3⟩ := hm
    obtain ⟨a1, c1, rfl⟩ := h1.slice
    obtain ⟨a2, c2, rfl⟩ := h2.slice
    refine ⟨_, _, _, _, _, _, _, _, _, rfl, hr, below_four _ _ _ _ hb2, ?_⟩
    rw [ho]
    refine ⟨_, _, rfl, ?_, ?_, h3⟩
    · exact own_down (ownsRow_setCell_below (ownsRow_setCell_below (ownsRow_setCell_below (ownsRow_setCell_below h1 (by simp) _) (by simp) _) (by simp) _) (by simp) _) (by omega)
    · exact own_down (ownsRow_setCell_below (ownsRow_setCell_below (ownsRow_setCell_below (ownsRow_setCell_below h2 (by simp) _) (by simp) _) (by simp) _) (by simp) _) (by omega)
end
/-- What the reference asks of its reader of values. -/
structure RReaders (V : List UInt8 → Value × Int) (w : World) : Prop where
  v : ∀ l, l.length ≤ 140737488355328 → ∀ w2, Below w.heap.size w w2 → Calls Tryz.prog 21 #[.string (bs l)] w2 fun e w' => e = .returned (.tuple #[(V l).1, .int .i64 (V l).2]) ∧ Below w2.heap.size w2 w'
  f : ∀ l, ∃ k b t n, V l = (val k b t, n) ∧ 0 ≤ b ∧ b < 18446744073709551616
end Go.Proofs.YtagiddbfhlokcaaGreatDoor.Ser
