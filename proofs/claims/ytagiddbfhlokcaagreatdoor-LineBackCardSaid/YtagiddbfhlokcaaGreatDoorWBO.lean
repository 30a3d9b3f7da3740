/- Reading a line by the reference: its memory, and the plain law of its steps. No condition. -/
import Derived.Test.YtagiddbfhlokcaaGreatDoorWBM
import Derived.Test.YtagiddbfhlokcaaGreatDoorWBN
namespace Go.Proofs.YtagiddbfhlokcaaGreatDoor.Ser
open Go.RowKit Go.Sort
set_option maxRecDepth 100000
structure QMem (name : ByteArray) (tags : List Tg) (fields : List Fd) (v vf : Value) (tm : Int) (w wr : World) : Prop where
  res : wr.heap[w.heap.size]? = some (.cells #[.string ⟨#[]⟩, .slice none 0 0, .slice none 0 0, .int .i64 0] 27 (0, 0))
  non : wr.heap[w.heap.size + 1]? = some (.cells #[.string ⟨#[]⟩, .slice none 0 0, .slice none 0 0, .int .i64 0] 27 (0, 0))
  row : wr.heap[w.heap.size + 2]? = some (.cells #[.string name, v, vf, .int .i64 tm] 27 (0, 0))
  rt : RT wr (w.heap.size + 3) v tags
  rf : RF wr (w.heap.size + 3) vf fields
  ap : ∀ g, v.ownBlock = some g → vf.ownBlock ≠ some g
  bel : Below w.heap.size w wr
section
variable {name : ByteArray} {tags : List Tg} {fields : List Fd} {v vf : Value} {tm : Int} {w wr w' : World}
theorem QMem.size (h : QMem name tags fields v vf tm w wr) : w.heap.size + 2 < wr.heap.size := lt_of_block h.row
theorem QMem.later (h : QMem name tags fields v vf tm w wr) (hb : Below wr.heap.size wr w') : QMem name tags fields v vf tm w w' :=
  ⟨(hb.block _ (lt_of_block h.res)).trans h.res, (hb.block _ (lt_of_block h.non)).trans h.non, (hb.block _ (lt_of_block h.row)).trans h.row, own_later h.rt hb, own_later h.rf hb, h.ap, h.bel.trans (hb.mono h.bel.size)⟩
theorem QMem.cells (h : QMem name tags fields v vf tm w wr) :
    wr.cell? ⟨w.heap.size + 1 + 1, 0, none⟩ = some (.string name) ∧ wr.cell? ⟨w.heap.size + 1 + 1, 1, none⟩ = some v ∧ wr.cell? ⟨w.heap.size + 1 + 1, 2, none⟩ = some vf ∧ wr.cell? ⟨w.heap.size + 1 + 1, 3, none⟩ = some (.int .i64 tm) :=
  ⟨Lib.cell_of_heap h.row 0, Lib.cell_of_heap h.row 1, Lib.cell_of_heap h.row 2, Lib.cell_of_heap h.row 3⟩
theorem QMem.frees (h : QMem name tags fields v vf tm w wr) :
    wr.frozen? ⟨w.heap.size + 1 + 1, 0, none⟩ = false ∧ wr.frozen? ⟨w.heap.size + 1 + 1, 1, none⟩ = false ∧ wr.frozen? ⟨w.heap.size + 1 + 1, 2, none⟩ = false ∧ wr.frozen? ⟨w.heap.size + 1 + 1, 3, none⟩ = false :=
  ⟨Lib.frozen_of_heap h.row 0, Lib.frozen_of_heap h.row 1, Lib.frozen_of_heap h.row 2, Lib.frozen_of_heap h.row 3⟩
theorem QMem.setName (nm : ByteArray) (h : QMem name tags fields v vf tm w wr) : QMem nm tags fields v vf tm w (wr.setCell ⟨w.heap.size + 2, 0, none⟩ (.string nm)) := by
  refine ⟨by rw [Below.heap_setCell _ _ _ _ (by simp)]; exact h.res, by rw [Below.heap_setCell _ _ _ _ (by simp)]; exact h.non, ?_, ownsRow_setCell_below h.rt (by simp) _, ownsRow_setCell_below h.rf (by simp) _, h.ap, h.bel.setCell (by simp) _⟩
  rw [heap_setCell_same _ _ _ _ _ _ h.row]; rfl
theorem QMem.setTime (t : Int) (h : QMem name tags fields v vf tm w wr) : QMem name tags fields v vf t w (wr.setCell ⟨w.heap.size + 2, 3, none⟩ (.int .i64 t)) := by
  refine ⟨by rw [Below.heap_setCell _ _ _ _ (by simp)]; exact h.res, by rw [Below.heap_setCell _ _ _ _ (by simp)]; exact h.non, ?_, ownsRow_setCell_below h.rt (by simp) _, ownsRow_setCell_below h.rf (by simp) _, h.ap, h.bel.setCell (by simp) _⟩
  rw [heap_setCell_same _ _ _ _ _ _ h.row]; rfl
theorem QMem.appendF {v1 : Value} {o : Obj} {p : Fd} {n : Nat} {xs : List Value} (h : QMem name tags fields v vf tm w wr) (hg : (wr.alloc o).grownBy w' vf.ownBlock)
    (hat : v1.ownBlock = vf.ownBlock ∨ v1.ownBlock = some (wr.alloc o).heap.size) (hown : w'.ownsRow (w.heap.size + 3) 64 4 v1 n xs) (hn : n = fields.length + 1) (hx : xs = fields.flatMap encF ++ encF p) :
    w'.heap[w.heap.size + 2]? = some (.cells #[.string name, v, vf, .int .i64 tm] 27 (0, 0)) ∧ QMem name tags (fields ++ [p]) v v1 tm w (w'.setCell ⟨w.heap.size + 2, 2, none⟩ v1) := by
  have l3 := lt_of_block h.row
  have ne : ∀ j, j < w.heap.size + 3 → some j ≠ vf.ownBlock := fun j hj e => by have := (h.rf.lt j e.symm).1; omega
  have al : ∀ j, j < wr.heap.size → (wr.alloc o).heap[j]? = wr.heap[j]? := fun j hj => Below.heap_alloc wr o _ hj
  have f0 := (hg.block _ (by simp; omega) (ne (w.heap.size) (by omega))).trans ((al _ (by omega)).trans h.res)
  have f1 := (hg.block _ (by simp; omega) (ne (w.heap.size + 1) (by omega))).trans ((al _ (by omega)).trans h.non)
  have f2 := (hg.block _ (by simp; omega) (ne (w.heap.size + 2) (by omega))).trans ((al _ (by omega)).trans h.row)
  have f3 : RT w' (w.heap.size + 3) v tags := by
    refine (World.ownsRow.alloc h.rt o).kept hg ?_
    cases hv : v.ownBlock with
    | none => exact .inl rfl
    | some g => exact .inr fun e => h.ap g hv e.symm
  have f4 : Below w.heap.size w w' := (h.bel.alloc h.bel.size o).grown hg (by simp; omega) (fun j hj => by have := (h.rf.lt j hj).1; omega)
  subst hn hx
  refine ⟨f2, by rw [Below.heap_setCell _ _ _ _ (by simp)]; exact f0, by rw [Below.heap_setCell _ _ _ _ (by simp)]; exact f1, ?_, ownsRow_setCell_below f3 (by simp) _, ?_, ?_, f4.setCell (by simp) _⟩
  · rw [heap_setCell_same _ _ _ _ _ _ f2]; rfl
  · rw [RF, List.length_append, List.flatMap_append]
    exact ownsRow_setCell_below (by simpa using hown) (by simp) _
  · intro g hv e
    rcases hat with h1 | h1
    · rw [h1] at e; exact h.ap g hv e
    · rw [h1] at e
      have := (h.rt.lt g hv).2
      injection e with e
      simp at e
      omega
theorem QMem.appendT {v1 : Value} {o : Obj} {p : Tg} {n : Nat} {xs : List Value} (h : QMem name tags fields v vf tm w wr) (hg : (wr.alloc o).grownBy w' v.ownBlock)
    (hat : v1.ownBlock = v.ownBlock ∨ v1.ownBlock = some (wr.alloc o).heap.size) (hown : w'.ownsRow (w.heap.size + 3) 82 2 v1 n xs) (hn : n = tags.length + 1) (hx : xs = tags.flatMap encT ++ encT p) :
    w'.heap[w.heap.size + 2]? = some (.cells #[.string name, v, vf, .int .i64 tm] 27 (0, 0)) ∧ QMem name (tags ++ [p]) fields v1 vf tm w (w'.setCell ⟨w.heap.size + 2, 1, none⟩ v1) := by
  have l3 := lt_of_block h.row
  have ne : ∀ j, j < w.heap.size + 3 → some j ≠ v.ownBlock := fun j hj e => by have := (h.rt.lt j e.symm).1; omega
  have al : ∀ j, j < wr.heap.size → (wr.alloc o).heap[j]? = wr.heap[j]? := fun j hj => Below.heap_alloc wr o _ hj
  have f0 := (hg.block _ (by simp; omega) (ne (w.heap.size) (by omega))).trans ((al _ (by omega)).trans h.res)
  have f1 := (hg.block _ (by simp; omega) (ne (w.heap.size + 1) (by omega))).trans ((al _ (by omega)).trans h.non)
  have f2 := (hg.block _ (by simp; omega) (ne (w.heap.size + 2) (by omega))).trans ((al _ (by omega)).trans h.row)
  have f3 : RF w' (w.heap.size + 3) vf fields := by
    refine (World.ownsRow.alloc h.rf o).kept hg ?_
    cases hv : vf.ownBlock with
    | none => exact .inl rfl
    | some g => exact .inr fun e => h.ap g e.symm hv
  have f4 : Below w.heap.size w w' := (h.bel.alloc h.bel.size o).grown hg (by simp; omega) (fun j hj => by have := (h.rt.lt j hj).1; omega)
  subst hn hx
  refine ⟨f2, by rw [Below.heap_setCell _ _ _ _ (by simp)]; exact f0, by rw [Below.heap_setCell _ _ _ _ (by simp)]; exact f1, ?_, ?_, ownsRow_setCell_below f3 (by simp) _, ?_, f4.setCell (by simp) _⟩
  · rw [heap_setCell_same _ _ _ _ _ _ f2]; rfl
  · rw [RT, List.length_append, List.flatMap_append]
    exact ownsRow_setCell_below (by simpa using hown) (by simp) _
  · intro g hv e
    rcases hat with h1 | h1
    · rw [h1] at hv; exact h.ap g hv e
    · rw [h1] at hv
      have := (h.rf.lt g e).2
      injection hv with hv
      simp at hv
      omega
/-- Behind 'sorted'. -/
theorem QMem.fin {R : LR} {e : Ending} (h : QMem name tags fields v vf tm w wr) (hp : RowPostB R (w.heap.size + 3) wr e w') :
    ∃ nm a n c a' n' c' t er, e = .returned (.tuple #[.agg #[.string nm, .slice a n c, .slice a' n' c', .int .i64 t], .int .i64 er]) ∧ w'.heap[w.heap.size]? = some (.cells #[.string ⟨#[]⟩, .slice none 0 0, .slice none 0 0, .int .i64 0] 27 (0, 0)) ∧
      RowPost R w (.returned (.tuple #[.agg #[.string nm, .slice a n c, .slice a' n' c', .int .i64 t], .int .i64 er])) ((((w'.setCell ⟨w.heap.size, 0, none⟩ (.string nm)).setCell ⟨w.heap.size, 1, none⟩ (.slice a n c)).setCell ⟨w.heap.size, 2, none⟩ (.slice a' n' c')).setCell ⟨w.heap.size, 3, none⟩ (.int .i64 t)) := by
  obtain ⟨hb, hm⟩ := hp
  have hb2 := h.bel.trans (hb.mono (by omega))
  have hr := (hb.block w.heap.size (by omega)).trans h.res
  cases ho : R.2 with
  | none =>
    rw [ho] at hm
    simp only at hm
    subst hm
    exact ⟨_, _, _, _, _, _, _, _, _, rfl, hr, below_four _ _ _ _ hb2, by rw [ho]⟩
  | some r =>
    rw [ho] at hm
    obtain ⟨v1, v2, rfl, h1, h2, h3⟩ := hm
    obtain ⟨a1, c1, rfl⟩ := h1.slice
    obtain ⟨a2, c2, rfl⟩ := h2.slice
    refine ⟨_, _, _, _, _, _, _, _, _, rfl, hr, below_four _ _ _ _ hb2, ?_⟩
    rw [ho]
    refine ⟨_, _, rfl, ?_, ?_, h3⟩
    · exact own_down (ownsRow_setCell_below (ownsRow_setCell_below (ownsRow_setCell_below (ownsRow_setCell_below h1 (by simp) _) (by simp) _) (by simp) _) (by simp) _) (by omega)
    · exact own_down (ownsRow_setCell_below (ownsRow_setCell_below (ownsRow_setCell_below (ownsRow_setCell_below h2 (by simp) _) (by simp) _) (by simp) _) (by simp) _) (by omega)
end
/-- What the reference asks of its reader of values. -/
structure RReaders (V : List UInt8 → Value × Int) (w : World) : Prop where
  v : ∀ l, l.length ≤ 140737488355328 → ∀ w2, Below w.heap.size w w2 → Calls Tryz.prog 21 #[.string (bs l)] w2 fun e w' => e = .returned (.tuple #[(V l).1, .int .i64 (V l).2]) ∧ Below w2.heap.size w2 w'
  f : ∀ l, ∃ k b t n, V l = (val k b t, n) ∧ 0 ≤ b ∧ b < 18446744073709551616
end Go.Proofs.YtagiddbfhlokcaaGreatDoor.Ser
