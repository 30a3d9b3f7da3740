/- The cache's map: its keys, its rows as data; a cache in the heap. No condition. -/
import Derived.Test.YtfhdaihladgchaaG
import Derived.Maps.RangeWalk
import Derived.DeepKeys4
namespace Go.Proofs.Ytfhdaihladgchaa
open Go.RowKit Go.WideMaps
theorem laidOut : laidOutB Try.prog = true := by kernel_rfl
theorem row63 : (63 : TypeId) < Try.prog.types.size := of_decide_eq_true (by kernel_rfl)
theorem cells63 : Try.prog.cellsOf 63 = 2 := by kernel_rfl
theorem wide63 : (match Try.prog.underlying 63 with | some (.array _ _) | some (.struct _) => true | _ => false) = true := by kernel_rfl
set_option maxRecDepth 100000 in
theorem law63 : KeyLaw Try.prog 63 := deep_law_laid laidOut (m := 2) (by omega) row63 (by kernel_rfl) wide63
theorem keyed63 : Maps.Keyed Try.prog 63 := Maps.Keyed.of_law law63
/-- A column's key, as a datum. -/
def kL (s f : ByteArray) : Lit := .string (keyBytes [.string s.data.toList, .string f.data.toList])
def kV (s f : ByteArray) : Value := .agg #[.string s, .string f]
theorem cells9 : Try.prog.cellsOf 9 = 1 := by kernel_rfl
theorem kt63 : Try.prog.keyType 63 = true := by kernel_rfl
set_option maxRecDepth 100000 in
theorem lits63 (d : Nat) (s f : ByteArray) (hs : s.size ≤ maxLen) (hf : f.size ≤ maxLen) : Try.prog.keyLits (d + 2) 63 [.string s, .string f] = some [.string s.data.toList, .string f.data.toList] := by
  have h9 : ∀ x : ByteArray, x.size ≤ maxLen → Try.prog.keyLits (d + 1) 9 [.string x] = some [.string x.data.toList] := fun x hx => by
    unfold Program.keyLits
    rw [Try.underlying9]
    simp [hx]
  unfold Program.keyLits
  rw [Try.underlying63]
  simp only [cells63]
  simp [cells9, h9 s hs, h9 f hf]
theorem key63 (s f : ByteArray) (hs : s.size ≤ maxLen) (hf : f.size ≤ maxLen) : keyOf Try.prog 63 (kV s f) = some (kL s f) := by
  obtain ⟨d, hd⟩ : ∃ d, Try.prog.types.size + 1 = d + 2 := ⟨Try.prog.types.size - 1, by have h : (63 : Nat) < Try.prog.types.size := row63; omega⟩
  have h0 := lits63 d s f hs hf
  rw [← hd] at h0
  have hfm : (kV s f).formed Try.prog 63 = true := by
    unfold kV Value.formed
    rw [Try.underlying63]
    simp only [cells63]
    rfl
  unfold keyOf
  rw [Try.underlying63]
  simp only [kt63, hfm]
  show ((Try.prog.keyLits (Try.prog.types.size + 1) 63 [.string s, .string f]).map fun ls => Lit.string (keyBytes ls)) = some (kL s f)
  rw [h0]; rfl
end Go.Proofs.Ytfhdaihladgchaa
