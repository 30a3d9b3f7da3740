/- Several texts of this proof, laid together. Conditions: as each says. -/
import Derived.Test.YtagiddbfhlokcaaGreatDoorMBK
import Derived.Test.YtagiddbfhlokcaaGreatDoorMBC
/- The reference's way to put a row in order: the walk. No condition. -/
namespace Go.Proofs.YtagiddbfhlokcaaGreatDoor.Ser
open Go.RowKit Go.Sort
set_option maxRecDepth 100000
structure SMem (B : Nat) (name : ByteArray) (tags : List Tg) (fields : List Fd) (v vf : Value) (tm : Int) (w wr : World) : Prop where
  base : B ≤ w.heap.size
  box : wr.heap[w.heap.size]? = some (.cells #[.string name, v, vf, .int .i64 tm] 27 (0, 0))
  res : wr.heap[w.heap.size + 1]? = some (.cells #[.string ⟨#[]⟩, .slice none 0 0, .slice none 0 0, .int .i64 0] 27 (0, 0))
  rt : RT wr B v tags
  rf : RF wr B vf fields
  lt : ∀ g, v.ownBlock = some g → g < w.heap.size
  lf : ∀ g, vf.ownBlock = some g → g < w.heap.size
  ap : ∀ g, v.ownBlock = some g → vf.ownBlock ≠ some g
  bel : Below B w wr
section
variable {B : Nat} {name : ByteArray} {tags : List Tg} {fields : List Fd} {v vf : Value} {tm : Int} {w wr : World}
end
end Go.Proofs.YtagiddbfhlokcaaGreatDoor.Ser
/- A name that ends with a sign, by the reference. Condition: the text's length. -/
namespace Go.Proofs.YtagiddbfhlokcaaGreatDoor.Ser
open Go.RowKit Go.Sort
set_option maxRecDepth 100000
end Go.Proofs.YtagiddbfhlokcaaGreatDoor.Ser
/- Reading a line by the program: the fields. Conditions: the text's length; the readers of values. -/
namespace Go.Proofs.YtagiddbfhlokcaaGreatDoor.Ser
open Go.RowKit Go.Sort
set_option maxRecDepth 100000
theorem cutPost_cases {o : Option (List UInt8 × List UInt8)} {w : World} {e : Ending} {w' : World} (h : CutPost o w e w') : ∃ b s ok, e = .returned (.tuple #[.string b, .string s, .bool ok]) ∧ (ok = true → ∃ bl r, o = some (bl, r) ∧ b = ofL bl ∧ s = bs r) ∧ (ok = false → o = none) ∧ Below w.heap.size w w' := by
  obtain ⟨hb, h⟩ := h
  cases o with
  | none =>
    obtain ⟨t, rfl⟩ := h
    exact ⟨_, _, _, rfl, (fun h => nomatch h), fun _ => rfl, hb⟩
  | some p =>
    obtain ⟨b, r⟩ := p
    simp only at h
    exact ⟨_, _, _, h, fun _ => ⟨b, r, rfl, rfl, rfl⟩, (fun h => nomatch h), hb⟩
theorem cut39 (r : List UInt8) (w : World) (hs : r.length ≤ 140737488355328) : Calls Tryz.prog 39 #[.string (bs r)] w (CutPost (scan [] r) w) := by
  have h := cut (bs r) w (by rw [bs_size]; exact hs)
  rw [bs_list] at h
  exact h
theorem ofL_size (l : List UInt8) : (ofL l).size = l.length := by simp [ofL, ByteArray.size]
theorem name40 (nb : List UInt8) (h : nb.length ≤ 140737488355328) (w : World) : Calls Tryz.prog 40 #[.string (ofL nb)] w fun e w' => e = .returned (.bool (nameB nb)) ∧ Below w.heap.size w w' := by
  have := vname (ofL nb) w (by rw [ofL_size]; unfold maxLen; omega)
  rw [show (ofL nb).data.toList = nb by simp [ofL]] at this
  exact this
theorem name_sized {nb : List UInt8} (h : nameB nb = true) : (ofL nb).size ≤ maxLen := by
  unfold nameB at h
  simp at h
  rw [ofL_size]
  unfold maxLen
  omega
/-- What comes behind a field. -/
def nextP (V : List UInt8 → Value × Int) (now : Int) (n : Nat) (acc acc' : List Fd) : List UInt8 → Int × List Fd × Int
  | [] => (0, acc', now)
  | c :: r3 => if c = 44 then fieldsP V now n acc' r3 else if c = 32 then ((PF.intP r3).2, acc', (PF.intP r3).1) else (2, acc, 0)
section
variable {V : List UInt8 → Value × Int} {now : Int} {n : Nat} {acc : List Fd} {r kb r1 : List UInt8}
theorem fp_none (h : scan [] r = none) : fieldsP V now (n + 1) acc r = (2, acc, 0) := by unfold fieldsP; rw [h]
theorem fp_bad (h : scan [] r = some (kb, r1)) (hb : (nameB kb && headIs 61 r1) = false) : fieldsP V now (n + 1) acc r = (2, acc, 0) := by unfold fieldsP; rw [h]; simp only; rw [hb]; rfl
theorem fp_noend (h : scan [] r = some (kb, r1)) (hb : (nameB kb && headIs 61 r1) = true) (hv : vEnd r1.tail = none) : fieldsP V now (n + 1) acc r = (2, acc, 0) := by
  unfold fieldsP; rw [h]; simp only; rw [hb, hv]; rfl
theorem fp_err {m : Nat} (h : scan [] r = some (kb, r1)) (hb : (nameB kb && headIs 61 r1) = true) (hv : vEnd r1.tail = some m) (he : (V (r1.tail.take m)).2 ≠ 0) : fieldsP V now (n + 1) acc r = ((V (r1.tail.take m)).2, acc, 0) := by
  unfold fieldsP; rw [h]; simp only; rw [hb, hv]; simp only [if_true]; rw [if_neg he]
theorem fp_ok {m : Nat} (h : scan [] r = some (kb, r1)) (hb : (nameB kb && headIs 61 r1) = true) (hv : vEnd r1.tail = some m) (he : (V (r1.tail.take m)).2 = 0) : fieldsP V now (n + 1) acc r =
    nextP V now n acc (acc ++ [(ofL kb, valF (V (r1.tail.take m)).1)]) (r1.tail.drop m) := by
  rw [fieldsP, h]; simp only; rw [hb, hv]; simp only [if_true]; rw [if_pos he]
  cases r1.tail.drop m <;> rfl
end
theorem finP_err {name : ByteArray} {tags : List Tg} {er : Int} {acc : List Fd} {t : Int} (h : er ≠ 0) : finP name tags (er, acc, t) = (er, none) := by unfold finP; rw [if_neg h]
/-- A value stored where the last was. -/
theorem PMem.setVal {name : ByteArray} {tags : List Tg} {fields : List Fd} {v vf : Value} {tm : Int} {w wr : World} (k b : Int) (t : ByteArray) (h : PMem name tags fields v vf tm w wr) :
    PMem name tags fields v vf tm w (((wr.setCell ⟨w.heap.size + 2, 0, none⟩ (.int .i64 k)).setCell ⟨w.heap.size + 2, 1, none⟩ (.int .u64 b)).setCell ⟨w.heap.size + 2, 2, none⟩ (.string t)) := by
  obtain ⟨k0, b0, t0, h3⟩ := h.val
  have g1 := heap_setCell_same wr (w.heap.size + 2) 0 _ _ (.int .i64 k) h3
  have g2 := heap_setCell_same _ (w.heap.size + 2) 1 _ _ (.int .u64 b) g1
  have g3 := heap_setCell_same _ (w.heap.size + 2) 2 _ _ (.string t) g2
  have other : ∀ j, j < w.heap.size + 2 → (((wr.setCell ⟨w.heap.size + 2, 0, none⟩ (.int .i64 k)).setCell ⟨w.heap.size + 2, 1, none⟩ (.int .u64 b)).setCell ⟨w.heap.size + 2, 2, none⟩ (.string t)).heap[j]? = wr.heap[j]? := fun j hj => by
    rw [Below.heap_setCell _ _ _ _ (by simp; omega), Below.heap_setCell _ _ _ _ (by simp; omega), Below.heap_setCell _ _ _ _ (by simp; omega)]
  exact ⟨(other _ (by omega)).trans h.res, (other _ (by omega)).trans h.row, ⟨k, b, t, g3⟩, ownsRow_setCell_below (ownsRow_setCell_below (ownsRow_setCell_below h.rt (by simp) _) (by simp) _) (by simp) _,
    ownsRow_setCell_below (ownsRow_setCell_below (ownsRow_setCell_below h.rf (by simp) _) (by simp) _) (by simp) _, h.ap, ((h.bel.setCell (by simp) _).setCell (by simp) _).setCell (by simp) _⟩
theorem PMem.setVal_at {name : ByteArray} {tags : List Tg} {fields : List Fd} {v vf : Value} {tm : Int} {w wr : World} (k b : Int) (t : ByteArray) (h : PMem name tags fields v vf tm w wr) :
    (((wr.setCell ⟨w.heap.size + 2, 0, none⟩ (.int .i64 k)).setCell ⟨w.heap.size + 2, 1, none⟩ (.int .u64 b)).setCell ⟨w.heap.size + 2, 2, none⟩ (.string t)).heap[w.heap.size + 2]? = some (.cells #[.int .i64 k, .int .u64 b, .string t] 53 (0, 0)) := by
  obtain ⟨k0, b0, t0, h3⟩ := h.val
  have g1 := heap_setCell_same wr (w.heap.size + 2) 0 _ _ (.int .i64 k) h3
  have g2 := heap_setCell_same _ (w.heap.size + 2) 1 _ _ (.int .u64 b) g1
  exact heap_setCell_same _ (w.heap.size + 2) 2 _ _ (.string t) g2
theorem PMem.vcells {name : ByteArray} {tags : List Tg} {fields : List Fd} {v vf : Value} {tm : Int} {w wr : World} (h : PMem name tags fields v vf tm w wr) : ∃ k b t,
    wr.cell? ⟨w.heap.size + 2, 0, none⟩ = some (.int .i64 k) ∧ wr.cell? ⟨w.heap.size + 2, 1, none⟩ = some (.int .u64 b) ∧ wr.cell? ⟨w.heap.size + 2, 2, none⟩ = some (.string t) ∧ wr.frozen? ⟨w.heap.size + 2, 0, none⟩ = false ∧ wr.frozen? ⟨w.heap.size + 2, 1, none⟩ = false ∧ wr.frozen? ⟨w.heap.size + 2, 2, none⟩ = false := by
  obtain ⟨k, b, t, h3⟩ := h.val
  exact ⟨k, b, t, Lib.cell_of_heap h3 0, Lib.cell_of_heap h3 1, Lib.cell_of_heap h3 2, Lib.frozen_of_heap h3 0, Lib.frozen_of_heap h3 1, Lib.frozen_of_heap h3 2⟩
/-- Behind an append to the fields. -/
theorem PMem.grownF {name : ByteArray} {tags : List Tg} {fields : List Fd} {v vf : Value} {tm : Int} {w wr w' : World} {o : Obj} (h : PMem name tags fields v vf tm w wr) (hg : (wr.alloc o).grownBy w' vf.ownBlock) :
    w'.heap[w.heap.size]? = some (.cells #[.string ⟨#[]⟩, .slice none 0 0, .slice none 0 0, .int .i64 0] 27 (0, 0)) ∧ w'.heap[w.heap.size + 1]? = some (.cells #[.string name, v, vf, .int .i64 tm] 27 (0, 0)) ∧ (∃ k b t, w'.heap[w.heap.size + 2]? = some (.cells #[.int .i64 k, .int .u64 b, .string t] 53 (0, 0))) ∧ RT w' (w.heap.size + 3) v tags ∧ Below w.heap.size w w' := by
  obtain ⟨k, b, t, h3⟩ := h.val
  have l3 := lt_of_block h3
  have ne : ∀ j, j < w.heap.size + 3 → some j ≠ vf.ownBlock := fun j hj e => by have := (h.rf.lt j e.symm).1; omega
  have al : ∀ j, j < wr.heap.size → (wr.alloc o).heap[j]? = wr.heap[j]? := fun j hj => Below.heap_alloc wr o _ hj
  refine ⟨(hg.block _ (by simp; omega) (ne _ (by omega))).trans ((al _ (by omega)).trans h.res), (hg.block _ (by simp; omega) (ne _ (by omega))).trans ((al _ (by omega)).trans h.row), ⟨k, b, t, (hg.block _ (by simp; omega) (ne _ (by omega))).trans ((al _ (by omega)).trans h3)⟩, ?_, ?_⟩
  · refine (World.ownsRow.alloc h.rt o).kept hg ?_
    cases hv : v.ownBlock with
    | none => exact .inl rfl
    | some g => exact .inr fun e => h.ap g hv e.symm
  · exact (h.bel.alloc h.bel.size o).grown hg (by simp; omega) (fun j hj => by have := (h.rf.lt j hj).1; omega)
theorem PMem.appendF {name : ByteArray} {tags : List Tg} {fields : List Fd} {v vf v1 : Value} {tm : Int} {w wr w' : World} {o : Obj} {p : Fd} {n : Nat} {xs : List Value} (h : PMem name tags fields v vf tm w wr) (hg : (wr.alloc o).grownBy w' vf.ownBlock)
    (hat : v1.ownBlock = vf.ownBlock ∨ v1.ownBlock = some (wr.alloc o).heap.size) (hown : w'.ownsRow (w.heap.size + 3) 64 4 v1 n xs) (hn : n = fields.length + 1) (hx : xs = fields.flatMap encF ++ encF p) :
    PMem name tags (fields ++ [p]) v v1 tm w (w'.setCell ⟨w.heap.size + 1, 2, none⟩ v1) := by
  obtain ⟨f0, f1, ⟨k, b, t, f2⟩, f3, f4⟩ := h.grownF hg
  subst hn hx
  refine ⟨by rw [Below.heap_setCell _ _ _ _ (by simp)]; exact f0, ?_, ⟨k, b, t, ?_⟩, ownsRow_setCell_below f3 (by simp) _, ?_, ?_, f4.setCell (by simp) _⟩
  · rw [heap_setCell_same _ _ _ _ _ _ f1]; rfl
  · rw [Below.heap_setCell _ _ _ _ (by simp)]; exact f2
  · rw [RF, List.length_append, List.flatMap_append]
    exact ownsRow_setCell_below (by simpa using hown) (by simp) _
  · intro g hv e
    rcases hat with h1 | h1
    · rw [h1] at e; exact h.ap g hv e
    · rw [h1] at e
      have := (h.rt.lt g hv).2
      injection e with e
      simp at e
      omega
theorem PMem.setTime {name : ByteArray} {tags : List Tg} {fields : List Fd} {v vf : Value} {tm : Int} {w wr : World} (t : Int) (h : PMem name tags fields v vf tm w wr) : PMem name tags fields v vf t w (wr.setCell ⟨w.heap.size + 1, 3, none⟩ (.int .i64 t)) := by
  obtain ⟨k0, b0, t0, h3⟩ := h.val
  refine ⟨by rw [Below.heap_setCell _ _ _ _ (by simp)]; exact h.res, ?_, ⟨k0, b0, t0, by rw [Below.heap_setCell _ _ _ _ (by simp)]; exact h3⟩, ownsRow_setCell_below h.rt (by simp) _, ownsRow_setCell_below h.rf (by simp) _, h.ap, h.bel.setCell (by simp) _⟩
  rw [heap_setCell_same _ _ _ _ _ _ h.row]; rfl
theorem wp_gen {P : Program} {c : Code} {Q : Exit → Act → World → Prop} {a : Act} {W : World} (R : World → Prop) (h : R W) (k : ∀ w, R w → Code.wp P c Q a w) : Code.wp P c Q a W := k W h
end Go.Proofs.YtagiddbfhlokcaaGreatDoor.Ser
