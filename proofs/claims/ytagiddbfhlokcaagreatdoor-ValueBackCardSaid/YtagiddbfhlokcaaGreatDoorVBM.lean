/- Several texts of this proof, laid together. Conditions: as each says. -/
import Derived.Test.YtagiddbfhlokcaaGreatDoorVBL
import Derived.Deep.Cut
import Derived.Deep.CutRange
import Derived.BigRegion
import Derived.WalkMore
/- The reference's way to put a row in order: the walk. No condition. -/
namespace Go.Proofs.YtagiddbfhlokcaaGreatDoor.Ser
open Go.RowKit Go.Sort
set_option maxRecDepth 100000
/-- Four stores into the result's block. -/
theorem SMem.out {B : Nat} {name : ByteArray} {tags : List Tg} {fields : List Fd} {v vf : Value} {tm : Int} {w wr : World} (h : SMem B name tags fields v vf tm w wr) (x y z u : Value) {R : LR} {er : Int} (hR : R.1 = er)
    (ha : match R.2 with | none => (x, y, z, u) = (.string ⟨#[]⟩, .slice none 0 0, .slice none 0 0, .int .i64 0) | some r => (x, y, z, u) = (.string r.1, v, vf, .int .i64 r.2.2.2) ∧ r.2.1 = tags ∧ r.2.2.1 = fields) :
    RowPostB R B w (.returned (.tuple #[.agg #[x, y, z, u], .int .i64 er])) ((((wr.setCell ⟨w.heap.size + 1, 0, none⟩ x).setCell ⟨w.heap.size + 1, 1, none⟩ y).setCell ⟨w.heap.size + 1, 2, none⟩ z).setCell ⟨w.heap.size + 1, 3, none⟩ u) := by
  have hb := h.base
  have g1 : wr.grownBy _ (some (w.heap.size + 1)) := grown_trans (grown_trans (grown_trans (grown_set wr ⟨w.heap.size + 1, 0, none⟩ x rfl) (grown_set _ ⟨w.heap.size + 1, 1, none⟩ y rfl)) (grown_set _ ⟨w.heap.size + 1, 2, none⟩ z rfl)) (grown_set _ ⟨w.heap.size + 1, 3, none⟩ u rfl)
  refine ⟨h.bel.grown g1 (by have := h.size; omega) (fun k hk => by cases hk; omega), ?_⟩
  subst hR
  cases hr : R.2 with
  | none => rw [hr] at ha; simp only at ha ⊢; cases ha; rfl
  | some r =>
    rw [hr] at ha
    obtain ⟨ha, rfl, rfl⟩ := ha
    cases ha
    refine ⟨v, vf, rfl, h.rt.kept g1 ?_, h.rf.kept g1 ?_, h.ap⟩
    · cases hv : v.ownBlock with
      | none => exact .inl rfl
      | some g => exact .inr fun e => by have := h.lt g hv; cases e; omega
    · cases hv : vf.ownBlock with
      | none => exact .inl rfl
      | some g => exact .inr fun e => by have := h.lf g hv; cases e; omega
theorem SMem.field {B : Nat} {name : ByteArray} {tags : List Tg} {fields : List Fd} {v : Value} {tm : Int} {w wr : World} {g n cap i : Nat} (h : SMem B name tags fields v (.slice (some ⟨g, 0, none⟩) n cap) tm w wr) (hn : fields.length = n) (hi : i < n) :
    wr.cell? ⟨g, i * 4, none⟩ = some (.string (fE fields i).1) ∧ wr.cell? ⟨g, i * 4 + 1, none⟩ = some (.int .i64 (fE fields i).2.1) ∧ wr.cell? ⟨g, i * 4 + 2, none⟩ = some (.int .u64 (fE fields i).2.2.1) ∧ wr.cell? ⟨g, i * 4 + 3, none⟩ = some (.string (fE fields i).2.2.2) ∧
      wr.frozen? ⟨g, i * 4, none⟩ = false ∧ wr.frozen? ⟨g, i * 4 + 1, none⟩ = false ∧ wr.frozen? ⟨g, i * 4 + 2, none⟩ = false ∧ wr.frozen? ⟨g, i * 4 + 3, none⟩ = false := by
  obtain ⟨e0, e1, e2, e3⟩ := encF_get fields i (by omega)
  have hr := h.rf
  unfold RF at hr
  rw [hn] at hr
  obtain ⟨c0, f0⟩ := own_cell hr e0 (by omega)
  obtain ⟨c1, f1⟩ := own_cell hr e1 (by omega)
  obtain ⟨c2, f2⟩ := own_cell hr e2 (by omega)
  obtain ⟨c3, f3⟩ := own_cell hr e3 (by omega)
  exact ⟨c0, c1, c2, c3, f0, f1, f2, f3⟩
end Go.Proofs.YtagiddbfhlokcaaGreatDoor.Ser
/- Reading a line by the program: the walk of the fields. Conditions: the text's length; the readers of values. -/
namespace Go.Proofs.YtagiddbfhlokcaaGreatDoor.Ser
open Go.RowKit Go.Sort
set_option maxRecDepth 100000
/-- The readers of values and of integers, wherever the tables lie as they did. -/
structure Readers (V : List UInt8 → Value × Int) (w : World) : Prop where
  v : ∀ l, l.length ≤ 140737488355328 → ∀ w2, Below w.heap.size w w2 → Calls Tryz.prog 22 #[.string (bs l)] w2 fun e w' => e = .returned (.tuple #[(V l).1, .int .i64 (V l).2]) ∧ Below w2.heap.size w2 w'
  i : ∀ l, l.length ≤ 140737488355328 → ∀ w2, Below w.heap.size w w2 → Calls Tryz.prog 43 #[.string (bs l)] w2 fun e w' => e = .returned (.tuple #[.int .i64 (PF.intP l).1, .int .i64 (PF.intP l).2]) ∧ Below w2.heap.size w2 w'
  f : ∀ l, ∃ k b t n, V l = (val k b t, n) ∧ 0 ≤ b ∧ b < 18446744073709551616
end Go.Proofs.YtagiddbfhlokcaaGreatDoor.Ser
