/- Several texts of this proof, laid together. Conditions: as each says. -/
import Derived.Test.YtagiddbfhlokcaaGreatDoorWBS
/- The lines' rows, by the program: the walk. Conditions: the text's length; the readers of values. -/
namespace Go.Proofs.YtagiddbfhlokcaaGreatDoor.Ser
open Go.RowKit Go.Sort
set_option maxRecDepth 100000
structure RMem (es : List (Int × Ro)) (S : BS) (v7 v8 : Value) (B : Nat) (w wr : World) : Prop where
  o7 : wr.ownsRow B 76 5 v7 es.length (es.flatMap encN)
  o8 : wr.ownsRow B 38 2 v8 S.2.length (S.2.flatMap encX)
  rows : Rows2 wr es S.1
  a7 : ∀ x ∈ es, Away v7.ownBlock x.2
  a8 : ∀ x ∈ es, Away v8.ownBlock x.2
  ap : ∀ g, v7.ownBlock = some g → v8.ownBlock ≠ some g
  bel : Below B w wr
theorem RMem.later {es : List (Int × Ro)} {S : BS} {v7 v8 : Value} {B : Nat} {w wr w' : World} (h : RMem es S v7 v8 B w wr) (hB : B ≤ wr.heap.size) (hb : Below wr.heap.size wr w') : RMem es S v7 v8 B w w' :=
  ⟨own_later h.o7 hb, own_later h.o8 hb, h.rows.later hb, h.a7, h.a8, h.ap, h.bel.trans (hb.mono hB)⟩
theorem numb_slice {e : TypeId} {size : Nat} {w : World} {base : Nat} {v : Value} {n : Nat} {xs : List Value} (h : w.ownsRow base e size v n xs) : ∃ a cap, v = .slice a n cap := by
  rcases h.2 with ⟨rfl, hx⟩ | ⟨g, cap, cur, rfl, _⟩
  · subst hx; exact ⟨none, 0, rfl⟩
  · exact ⟨_, _, rfl⟩
end Go.Proofs.YtagiddbfhlokcaaGreatDoor.Ser
/- The lines' rows, by the program: the walk. Conditions: the text's length; the readers of values. -/
namespace Go.Proofs.YtagiddbfhlokcaaGreatDoor.Ser
open Go.RowKit Go.Sort
set_option maxRecDepth 100000
end Go.Proofs.YtagiddbfhlokcaaGreatDoor.Ser
/- A batch, by the program: the walk. Conditions: the text's length; the readers of values. -/
namespace Go.Proofs.YtagiddbfhlokcaaGreatDoor.Ser
open Go.RowKit Go.Sort
set_option maxRecDepth 100000
def encB (x : Int × Ro) : List Value := encR x.2
end Go.Proofs.YtagiddbfhlokcaaGreatDoor.Ser
