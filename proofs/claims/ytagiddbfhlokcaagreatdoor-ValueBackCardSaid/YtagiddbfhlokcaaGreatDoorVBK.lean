/- Several texts of this proof, laid together. Conditions: as each says. -/
import Derived.Test.YtagiddbfhlokcaaGreatDoorVBJ
import Derived.Test.YtagiddbfhlokcaaGreatDoorVAR
import Derived.Maps.AppendAt
/- Reading a line by the program: its memory, its states. Conditions: the text's length; the readers of values. -/
namespace Go.Proofs.YtagiddbfhlokcaaGreatDoor.Ser
open Go.RowKit Go.Sort
set_option maxRecDepth 100000
/-- The parser's memory: its result's cells, the row that grows, the value read last, the rows of tags and fields. -/
structure PMem (name : ByteArray) (tags : List Tg) (fields : List Fd) (v vf : Value) (tm : Int) (w wr : World) : Prop where
  res : wr.heap[w.heap.size]? = some (.cells #[.string ⟨#[]⟩, .slice none 0 0, .slice none 0 0, .int .i64 0] 27 (0, 0))
  row : wr.heap[w.heap.size + 1]? = some (.cells #[.string name, v, vf, .int .i64 tm] 27 (0, 0))
  val : ∃ k b t, wr.heap[w.heap.size + 2]? = some (.cells #[.int .i64 k, .int .u64 b, .string t] 53 (0, 0))
  rt : RT wr (w.heap.size + 3) v tags
  rf : RF wr (w.heap.size + 3) vf fields
  ap : ∀ g, v.ownBlock = some g → vf.ownBlock ≠ some g
  bel : Below w.heap.size w wr
theorem PMem.size {name : ByteArray} {tags : List Tg} {fields : List Fd} {v vf : Value} {tm : Int} {w wr : World} (h : PMem name tags fields v vf tm w wr) : w.heap.size + 2 < wr.heap.size := by
  obtain ⟨k, b, t, h3⟩ := h.val
  exact lt_of_block h3
theorem PMem.later {name : ByteArray} {tags : List Tg} {fields : List Fd} {v vf : Value} {tm : Int} {w wr w' : World} (h : PMem name tags fields v vf tm w wr) (hb : Below wr.heap.size wr w') : PMem name tags fields v vf tm w w' := by
  obtain ⟨k, b, t, h3⟩ := h.val
  exact ⟨(hb.block _ (lt_of_block h.res)).trans h.res, (hb.block _ (lt_of_block h.row)).trans h.row, ⟨k, b, t, (hb.block _ (lt_of_block h3)).trans h3⟩, own_later h.rt hb, own_later h.rf hb, h.ap, h.bel.trans (hb.mono h.bel.size)⟩
/-- The cells of what the parser holds. -/
theorem PMem.cells {name : ByteArray} {tags : List Tg} {fields : List Fd} {v vf : Value} {tm : Int} {w wr : World} (h : PMem name tags fields v vf tm w wr) :
    wr.cell? ⟨w.heap.size + 1, 0, none⟩ = some (.string name) ∧ wr.cell? ⟨w.heap.size + 1, 1, none⟩ = some v ∧ wr.cell? ⟨w.heap.size + 1, 2, none⟩ = some vf ∧ wr.cell? ⟨w.heap.size + 1, 3, none⟩ = some (.int .i64 tm) :=
  ⟨Lib.cell_of_heap h.row 0, Lib.cell_of_heap h.row 1, Lib.cell_of_heap h.row 2, Lib.cell_of_heap h.row 3⟩
/-- What a line's parsing answers. -/
def RowPost (o : LR) (w : World) (e : Ending) (w' : World) : Prop :=
  Below w.heap.size w w' ∧ match o.2 with
    | none => e = .returned (.tuple #[.agg #[.string ⟨#[]⟩, .slice none 0 0, .slice none 0 0, .int .i64 0], .int .i64 o.1])
    | some r => ∃ v vf, e = .returned (.tuple #[.agg #[.string r.1, v, vf, .int .i64 r.2.2.2], .int .i64 o.1]) ∧ RT w' w.heap.size v r.2.1 ∧ RF w' w.heap.size vf r.2.2.1 ∧ ∀ g, v.ownBlock = some g → vf.ownBlock ≠ some g
theorem below_four {w wr : World} {B : Nat} (x y z u : Value) (h : Below B w wr) : Below B w ((((wr.setCell ⟨B, 0, none⟩ x).setCell ⟨B, 1, none⟩ y).setCell ⟨B, 2, none⟩ z).setCell ⟨B, 3, none⟩ u) :=
  (((h.setCell (Nat.le_refl _) _).setCell (Nat.le_refl _) _).setCell (Nat.le_refl _) _).setCell (Nat.le_refl _) _
theorem own_down {w : World} {b1 b2 e size n : Nat} {v : Value} {xs : List Value} (h : w.ownsRow b1 e size v n xs) (hb : b2 ≤ b1) : w.ownsRow b2 e size v n xs := by
  refine ⟨h.1, ?_⟩
  rcases h.2 with h1 | ⟨g, cap, cur, h1, h2, h3⟩
  · exact .inl h1
  · exact .inr ⟨g, cap, cur, h1, by omega, h3⟩
end Go.Proofs.YtagiddbfhlokcaaGreatDoor.Ser
/- The reference's way to put rows in order: plain law, and a row's cells turned. No condition. -/
namespace Go.Proofs.YtagiddbfhlokcaaGreatDoor.Ser
open Go.RowKit Go.Sort
set_option maxRecDepth 100000
section
variable {α : Type} {key : α → List UInt8}
/-- The state of an insertion: x moves left through A; C, behind it, is above it. -/
structure Ins (key : α → List UInt8) (L : List α) (i : Nat) (A : List α) (x : α) (C D : List α) : Prop where
  pm : (A ++ x :: (C ++ D)).Perm L
  len : A.length + C.length = i
  wk : Weak key (A ++ C)
  up : ∀ c ∈ C, key x < key c
theorem Ins.start {L ts : List α} {i : Nat} (hp : ts.Perm L) (hi : i < ts.length) (hw : Weak key (ts.take i)) : Ins key L i (ts.take i) ts[i] [] (ts.drop (i + 1)) := by
  refine ⟨?_, by simp; omega, by simpa using hw, fun c hc => nomatch hc⟩
  have : ts.take i ++ ts[i] :: ([] ++ ts.drop (i + 1)) = ts := by
    rw [List.nil_append, ← List.drop_eq_getElem_cons hi, List.take_append_drop]
  rw [this]; exact hp
end
theorem own_cell {w : World} {base e size n g cap : Nat} {xs : List Value} (h : w.ownsRow base e size (.slice (some ⟨g, 0, none⟩) n cap) n xs) {i : Nat} {u : Value} (hi : xs[i]? = some u) (hn : n ≠ 0) : w.cell? ⟨g, i, none⟩ = some u ∧ w.frozen? ⟨g, i, none⟩ = false := by
  obtain ⟨g', cap', hv, _, hlt⟩ := h.form (Nat.pos_of_ne_zero hn)
  injection hv with hv _ _
  injection hv with hv
  injection hv with hv
  subst hv
  have hlen : i < xs.length := by
    rcases Nat.lt_or_ge i xs.length with h1 | h1
    · exact h1
    · rw [List.getElem?_eq_none h1] at hi; cases hi
  refine ⟨(h.cellAt i (by rw [← h.1]; exact hlen)).trans hi, ?_⟩
  rcases h.2 with ⟨h1, _⟩ | ⟨g', cap', cur, h1, h2, h3, h4, h5, h6, h7⟩
  · cases h1
  · injection h1 with h1 _ _
    injection h1 with h1
    injection h1 with h1
    subst h1
    exact Lib.frozen_of_heap h3 i
end Go.Proofs.YtagiddbfhlokcaaGreatDoor.Ser
