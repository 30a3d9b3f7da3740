/- Whether a row is formed, by the program and by the reference. Condition: texts' lengths are numbers of Go's int; values' bits are 64. -/
import Derived.Test.YtagiddbfhlokcaaGreatDoorVBF
import Derived.Test.YtagiddbfhlokcaaGreatDoorVBA
namespace Go.Proofs.YtagiddbfhlokcaaGreatDoor.Ser
open Go.RowKit Go.Sort
set_option maxRecDepth 100000
def FieldsAt (w : World) (a : Option Addr) (L : List Fd) : Prop :=
  ∀ i, i < L.length → ∃ b off, a = some ⟨b, off, none⟩ ∧ b < w.heap.size ∧ w.cell? ⟨b, off + i * 4, none⟩ = some (.string (fE L i).1) ∧ w.cell? ⟨b, off + i * 4 + 1, none⟩ = some (.int .i64 (fE L i).2.1) ∧
    w.cell? ⟨b, off + i * 4 + 2, none⟩ = some (.int .u64 (fE L i).2.2.1) ∧ w.cell? ⟨b, off + i * 4 + 3, none⟩ = some (.string (fE L i).2.2.2)
theorem FieldsAt.later {w w' : World} {a : Option Addr} {L : List Fd} (h : FieldsAt w a L) (hb : Below w.heap.size w w') : FieldsAt w' a L := fun i hi => by
  obtain ⟨b, off, h1, h2, h3, h4, h5, h6⟩ := h i hi
  exact ⟨b, off, h1, Nat.lt_of_lt_of_le h2 hb.size, by rw [← h3]; exact hb.cell h2, by rw [← h4]; exact hb.cell h2, by rw [← h5]; exact hb.cell h2, by rw [← h6]; exact hb.cell h2⟩
end Go.Proofs.YtagiddbfhlokcaaGreatDoor.Ser
