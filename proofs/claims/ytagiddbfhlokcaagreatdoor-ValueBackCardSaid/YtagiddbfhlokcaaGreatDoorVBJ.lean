/- Several texts of this proof, laid together. Conditions: as each says. -/
import Derived.Test.YtagiddbfhlokcaaGreatDoorVBH
import Derived.Test.YtagiddbfhlokcaaGreatDoorVBI
import Derived.Sort.OwnSorted
import Derived.Sort.Grow
import Derived.OneCell
/- slices.SortFunc at tags and at fields: the row holds the same, in order; nothing else has turned. No condition. -/
namespace Go.Proofs.YtagiddbfhlokcaaGreatDoor.Ser
open Go.RowKit Go.Sort Go.Shelf
set_option maxRecDepth 100000
set_option linter.unusedSectionVars false
def cmpS (a b : ByteArray) : Int := if Op.bytesLess a.toList b.toList then -1 else if Op.bytesLess b.toList a.toList then 1 else 0
theorem cmpS_lt (a b : ByteArray) : (cmpS a b < 0) ↔ a.toList < b.toList := by
  unfold cmpS
  rw [bytesLess_eq, bytesLess_eq]
  by_cases h : a.toList < b.toList
  · simp [h]
  · by_cases h2 : b.toList < a.toList <;> simp [h, h2]
def encT (p : Tg) : List Value := [.string p.1, .string p.2]
def encF (p : Fd) : List Value := [.string p.1, .int .i64 p.2.1, .int .u64 p.2.2.1, .string p.2.2.2]
theorem encT_len (x : Tg) : (encT x).length = 2 := rfl
theorem encF_len (x : Fd) : (encF x).length = 4 := rfl
def cmpF (x y : Fd) : Int := cmpS x.1 y.1
theorem key_list (s : ByteArray) : s.toList = s.data.toList := by rw [ByteArray.toList_eq]
section
variable {α : Type} [Inhabited α] {enc : α → List Value} {k : Nat}
theorem flat_len (hk : ∀ x, (enc x).length = k) (ks : List α) : (ks.flatMap enc).length = ks.length * k := by
  induction ks with
  | nil => simp
  | cons x r ih => rw [List.flatMap_cons, List.length_append, ih, hk, List.length_cons, Nat.succ_mul]; omega
end
instance : Inhabited Tg := ⟨(⟨#[]⟩, ⟨#[]⟩)⟩
instance : Inhabited Fd := ⟨(⟨#[]⟩, 0, 0, ⟨#[]⟩)⟩
theorem ltF (x y : Fd) : ltOf cmpF x y = decide (keyF x < keyF y) := by
  unfold ltOf cmpF keyF
  rw [Bool.eq_iff_iff, decide_eq_true_eq, decide_eq_true_eq, cmpS_lt, key_list, key_list]
end Go.Proofs.YtagiddbfhlokcaaGreatDoor.Ser
/- Rows of tags and of fields in order: plain law; and as they lie in memory. No condition. -/
namespace Go.Proofs.YtagiddbfhlokcaaGreatDoor.Ser
open Go.RowKit Go.Sort
set_option maxRecDepth 100000
/-! ### In memory -/
theorem encT_get : ∀ (L : List Tg) (i : Nat), i < L.length → (L.flatMap encT)[i * 2]? = some (.string (kOf L i)) ∧ (L.flatMap encT)[i * 2 + 1]? = some (.string (vOf L i))
  | [], i, h => by simp at h
  | p :: L, 0, _ => by simp [encT, kOf, vOf]
  | p :: L, i + 1, h => by
    have ih := encT_get L i (by simpa using h)
    have e1 : kOf (p :: L) (i + 1) = kOf L i := by simp [kOf]
    have e2 : vOf (p :: L) (i + 1) = vOf L i := by simp [vOf]
    rw [List.flatMap_cons, e1, e2, List.getElem?_append_right (by rw [encT_len]; omega), List.getElem?_append_right (by rw [encT_len]; omega)]
    rw [encT_len, show (i + 1) * 2 - 2 = i * 2 by omega, show (i + 1) * 2 + 1 - 2 = i * 2 + 1 by omega]
    exact ih
theorem encF_get : ∀ (L : List Fd) (i : Nat), i < L.length → (L.flatMap encF)[i * 4]? = some (.string (fE L i).1) ∧ (L.flatMap encF)[i * 4 + 1]? = some (.int .i64 (fE L i).2.1) ∧ (L.flatMap encF)[i * 4 + 2]? = some (.int .u64 (fE L i).2.2.1) ∧ (L.flatMap encF)[i * 4 + 3]? = some (.string (fE L i).2.2.2)
  | [], i, h => by simp at h
  | p :: L, 0, _ => by simp [encF, fE]
  | p :: L, i + 1, h => by
    have ih := encF_get L i (by simpa using h)
    have e1 : fE (p :: L) (i + 1) = fE L i := by simp [fE]
    rw [List.flatMap_cons, e1, List.getElem?_append_right (by rw [encF_len]; omega), List.getElem?_append_right (by rw [encF_len]; omega), List.getElem?_append_right (by rw [encF_len]; omega), List.getElem?_append_right (by rw [encF_len]; omega)]
    rw [encF_len, show (i + 1) * 4 - 4 = i * 4 by omega, show (i + 1) * 4 + 1 - 4 = i * 4 + 1 by omega, show (i + 1) * 4 + 2 - 4 = i * 4 + 2 by omega, show (i + 1) * 4 + 3 - 4 = i * 4 + 3 by omega]
    exact ih
abbrev RT (w : World) (base : Nat) (v : Value) (L : List Tg) : Prop := w.ownsRow base 82 2 v L.length (L.flatMap encT)
abbrev RF (w : World) (base : Nat) (v : Value) (L : List Fd) : Prop := w.ownsRow base 64 4 v L.length (L.flatMap encF)
theorem RT.slice {w : World} {base : Nat} {v : Value} {L : List Tg} (h : RT w base v L) : ∃ a cap, v = .slice a L.length cap := by
  rcases h.2 with ⟨rfl, hx⟩ | ⟨g, cap, cur, rfl, _⟩
  · have := flat_len encT_len L
    rw [hx] at this
    simp at this
    exact ⟨none, 0, by rw [show L.length = 0 by omega]⟩
  · exact ⟨_, _, rfl⟩
theorem RF.slice {w : World} {base : Nat} {v : Value} {L : List Fd} (h : RF w base v L) : ∃ a cap, v = .slice a L.length cap := by
  rcases h.2 with ⟨rfl, hx⟩ | ⟨g, cap, cur, rfl, _⟩
  · have := flat_len encF_len L
    rw [hx] at this
    simp at this
    exact ⟨none, 0, by rw [show L.length = 0 by omega]⟩
  · exact ⟨_, _, rfl⟩
theorem RT.at {w : World} {base cap : Nat} {a : Option Addr} {L : List Tg} (h : RT w base (.slice a L.length cap) L) : TagsAt w a L.length (kOf L) (vOf L) := by
  intro i hi
  obtain ⟨g, cap', hv, _, hlt⟩ := h.form (by omega)
  cases hv
  obtain ⟨h1, h2⟩ := encT_get L i hi
  have c1 := h.cellAt (i * 2) (by omega)
  have c2 := h.cellAt (i * 2 + 1) (by omega)
  exact ⟨g, 0, rfl, hlt, by rw [Nat.zero_add, c1, h1], by rw [Nat.zero_add, c2, h2]⟩
theorem RF.at {w : World} {base cap : Nat} {a : Option Addr} {L : List Fd} (h : RF w base (.slice a L.length cap) L) : FieldsAt w a L := by
  intro i hi
  obtain ⟨g, cap', hv, _, hlt⟩ := h.form (by omega)
  cases hv
  obtain ⟨h1, h2, h3, h4⟩ := encF_get L i hi
  have c1 := h.cellAt (i * 4) (by omega)
  have c2 := h.cellAt (i * 4 + 1) (by omega)
  have c3 := h.cellAt (i * 4 + 2) (by omega)
  have c4 := h.cellAt (i * 4 + 3) (by omega)
  exact ⟨g, 0, rfl, hlt, by rw [Nat.zero_add, c1, h1], by rw [Nat.zero_add, c2, h2], by rw [Nat.zero_add, c3, h3], by rw [Nat.zero_add, c4, h4]⟩
theorem own_later {w w' : World} {base e size n : Nat} {v : Value} {xs : List Value} (h : w.ownsRow base e size v n xs) (hb : Below w.heap.size w w') : w'.ownsRow base e size v n xs :=
  h.kept (row := none) ⟨hb.os, hb.tape, hb.output, hb.size, fun i hi _ => hb.block i hi⟩ (by cases v.ownBlock <;> simp)
end Go.Proofs.YtagiddbfhlokcaaGreatDoor.Ser
