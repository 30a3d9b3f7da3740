/- The cache's map: its keys, its rows as data; a cache in the heap. No condition. -/
import Derived.Test.YtblpjhgbckfaeaaB
import Derived.Maps.RangeWalk
import Derived.DeepKeys4
namespace Go.Proofs.Ytblpjhgbckfaeaa
open Go.RowKit Go.WideMaps
theorem laidOut : laidOutB Try.prog = true := by kernel_rfl
theorem row47 : (47 : TypeId) < Try.prog.types.size := of_decide_eq_true (by kernel_rfl)
theorem cells47 : Try.prog.cellsOf 47 = 2 := by kernel_rfl
theorem wide47 : (match Try.prog.underlying 47 with | some (.array _ _) | some (.struct _) => true | _ => false) = true := by kernel_rfl
set_option maxRecDepth 100000 in
theorem law47 : KeyLaw Try.prog 47 := deep_law_laid laidOut (m := 2) (by omega) row47 (by kernel_rfl) wide47
theorem keyed47 : Maps.Keyed Try.prog 47 := Maps.Keyed.of_law law47
/-- A column's key, as a datum. -/
def kL (s f : ByteArray) : Lit := .string (keyBytes [.string s.data.toList, .string f.data.toList])
def kV (s f : ByteArray) : Value := .agg #[.string s, .string f]
theorem cells9 : Try.prog.cellsOf 9 = 1 := by kernel_rfl
theorem kt47 : Try.prog.keyType 47 = true := by kernel_rfl
set_option maxRecDepth 100000 in
theorem lits47 (d : Nat) (s f : ByteArray) (hs : s.size ≤ maxLen) (hf : f.size ≤ maxLen) : Try.prog.keyLits (d + 2) 47 [.string s, .string f] = some [.string s.data.toList, .string f.data.toList] := by
  have h9 : ∀ x : ByteArray, x.size ≤ maxLen → Try.prog.keyLits (d + 1) 9 [.string x] = some [.string x.data.toList] := fun x hx => by
    unfold Program.keyLits
    rw [Try.underlying9]
    simp [hx]
  unfold Program.keyLits
  rw [Try.underlying47]
  simp only [cells47]
  simp [cells9, h9 s hs, h9 f hf]
theorem key47 (s f : ByteArray) (hs : s.size ≤ maxLen) (hf : f.size ≤ maxLen) : keyOf Try.prog 47 (kV s f) = some (kL s f) := by
  obtain ⟨d, hd⟩ : ∃ d, Try.prog.types.size + 1 = d + 2 := ⟨Try.prog.types.size - 1, by have h : (47 : Nat) < Try.prog.types.size := row47; omega⟩
  have h0 := lits47 d s f hs hf
  rw [← hd] at h0
  have hfm : (kV s f).formed Try.prog 47 = true := by
    unfold kV Value.formed
    rw [Try.underlying47]
    simp only [cells47]
    rfl
  unfold keyOf
  rw [Try.underlying47]
  simp only [kt47, hfm]
  show ((Try.prog.keyLits (Try.prog.types.size + 1) 47 [.string s, .string f]).map fun ls => Lit.string (keyBytes ls)) = some (kL s f)
  rw [h0]; rfl
theorem kL_eq {a b s f : ByteArray} (ha : a.size ≤ maxLen) (hb : b.size ≤ maxLen) (hs : s.size ≤ maxLen) (hf : f.size ≤ maxLen) (h : kL a b = kL s f) : a = s ∧ b = f := by
  have h1 := key47 a b ha hb
  rw [h] at h1
  have h2 := keyed47.inj h1 (key47 s f hs hf)
  simp [kV] at h2
  exact h2
theorem sameKey_kL {a b s f : ByteArray} (ha : a.size ≤ maxLen) (hb : b.size ≤ maxLen) (hs : s.size ≤ maxLen) (hf : f.size ≤ maxLen) : (kL a b).sameKey (kL s f) = decide (a = s ∧ b = f) := by
  rw [Bool.eq_iff_iff]
  constructor
  · intro h
    have h1 : kL a b = kL s f := by
      unfold kL at h ⊢
      simp only [Lit.sameKey, beq_iff_eq] at h
      rw [h]
    exact decide_eq_true (kL_eq ha hb hs hf h1)
  · intro h
    obtain ⟨rfl, rfl⟩ := of_decide_eq_true h
    unfold kL
    simp [Lit.sameKey]
end Go.Proofs.Ytblpjhgbckfaeaa
