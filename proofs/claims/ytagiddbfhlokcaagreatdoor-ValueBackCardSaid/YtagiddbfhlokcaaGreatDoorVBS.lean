/- Several texts of this proof, laid together. Conditions: as each says. -/
import Derived.Test.YtagiddbfhlokcaaGreatDoorVBR
import Derived.Lib.SmallJoins
import Derived.Deep.Slices
import Derived.ChangeSlices
import Derived.ChangeMaps5
/- A row that came in is read. No condition. -/
namespace Go.Proofs.YtagiddbfhlokcaaGreatDoor.Ser
open Go.RowKit Go.Sort Go.Deep Go.WideShapes Go.ChangeShapes Go.Joins
set_option maxRecDepth 100000
theorem cells9 : Tryz.prog.cellsOf 9 = 1 := by kernel_rfl
theorem cells3 : Tryz.prog.cellsOf 3 = 1 := by kernel_rfl
theorem cells51 : Tryz.prog.cellsOf 51 = 1 := by kernel_rfl
theorem cells53 : Tryz.prog.cellsOf 53 = 3 := by kernel_rfl
theorem wf_u64 {z : Int} (h : (Lit.int .u64 z).wf = true) : 0 ≤ z ∧ z < 18446744073709551616 := by
  have : 0 ≤ z ∧ z ≤ 18446744073709551615 := by simpa [Lit.wf, IntKind.min, IntKind.max, IntKind.signed, IntKind.bits] using h
  omega
end Go.Proofs.YtagiddbfhlokcaaGreatDoor.Ser
/- A value that came in is read. No condition. -/
namespace Go.Proofs.YtagiddbfhlokcaaGreatDoor.Ser
open Go.RowKit Go.Sort Go.Deep Go.WideShapes Go.ChangeShapes Go.Joins
set_option maxRecDepth 100000
theorem value_open {H : Type} {enc : TypeId × Value → H} {W : World} {base : Nat} {v : Value} {d : DataW H} {p : List MemPlace} (h : DataW.Trod enc Tryz.prog W 0 (fun _ => true) true 53 v d p) (o : Value.okWide Tryz.prog W .any base 53 v) :
    ∃ (k : Int) (x : Nat) (s : ByteArray), v = .agg #[.int .i64 k, .int .u64 (x : Int), .string s] ∧ x < 18446744073709551616 := by
  obtain ⟨cs, rfl, hcs⟩ := okWide_struct Tryz.underlying53 o
  obtain ⟨fuel, hf⟩ := h
  cases fuel with
  | zero => simp [DataW.trod] at hf
  | succ n =>
    rw [cells53] at hcs
    obtain ⟨l⟩ := cs
    match l, hcs with
    | [c1, c2, c3], _ =>
      obtain ⟨xs', k', _, _, _, hlen', hg'⟩ := DataW.trod_struct Tryz.underlying53 hf
      match xs', hlen' with
      | [u0, u1, u2], _ =>
        have f0 : DataW.trod enc Tryz.prog W 0 (fun _ => true) true k' 3 [c1] = some u0 := by simpa [cells3, Value.cells] using hg' 0 _ rfl
        have f1 : DataW.trod enc Tryz.prog W 0 (fun _ => true) true k' 51 [c2] = some u1 := by simpa [cells3, cells51, Value.cells] using hg' 1 _ rfl
        have f2 : DataW.trod enc Tryz.prog W 0 (fun _ => true) true k' 9 [c3] = some u2 := by simpa [cells3, cells51, cells9, Value.cells] using hg' 2 _ rfl
        obtain ⟨z1, g1, _, w1⟩ := DataW.trod_int Tryz.underlying3 f0
        obtain ⟨z2, g2, _, w2⟩ := DataW.trod_int Tryz.underlying51 f1
        obtain ⟨z3, g3, _, w3⟩ := DataW.trod_string Tryz.underlying9 f2
        simp at g1 g2 g3
        subst g1 g2 g3
        have := wf_u64 w2
        exact ⟨z1, z2.toNat, z3, by rw [show ((z2.toNat : Nat) : Int) = z2 by omega], by omega⟩
end Go.Proofs.YtagiddbfhlokcaaGreatDoor.Ser
