/- ValueNumbers' walk over the row's own condition. -/
import Derived.Test.YtnnoefbmoafbnaaGreatDoorN
namespace Go.Proofs.YtnnoefbmoafbnaaGreatDoor.Fit
open Go.RowKit
set_option maxRecDepth 100000
theorem valueNumbers_walk (H : Type) (enc : TypeId × Value → H) (W : World) (base : Nat) (v0 v1 : Value) (d0 d1 : DataW H) (p0 p1 : List MemPlace) (h0 : DataW.Trod enc Tryz.prog W 0 (fun _ => true) true 24 v0 d0 p0) (o0 : Value.okWide Tryz.prog W .any base 24 v0)
    (h1 : DataW.Trod enc Tryz.prog W 0 (fun _ => true) true 25 v1 d1 p1) (o1 : Value.okWide Tryz.prog W .any base 25 v1) (hL : laidMetH Tryz.prog Laid.lst W) :
    Calls Tryz.prog 3 #[v0, v1] W fun e w' => e = .returned (.bool true) ∧ Below W.heap.size W w' := by
  obtain ⟨h2, h3⟩ := env_of hL
  exact YtnnoefbmoafbnaaGreatDoor.valueNumbers_walk H enc W base v0 v1 d0 d1 p0 p1 h0 o0 h1 o1 h2 h3
end Go.Proofs.YtnnoefbmoafbnaaGreatDoor.Fit
