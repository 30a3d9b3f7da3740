/- A tag's values are those of the series; none is empty; the parts of a name. No condition. -/
import Derived.Test.YtobcpafalfdpkaaAP
namespace Go.Proofs.Ytobcpafalfdpkaa
open Go.RowKit Go.WideMaps Go.Sort
theorem vals_has {nm : BA} {μ : Me} (h : MeOk nm μ) (hr : RisingK μ.ss) {k v : BA} {p : BA × SV} (hp : p ∈ μ.ss) (ht : tagOf k p = some v) : v ∈ (valsOf μ k).map (·.1) := by
  have hat : At μ k v p.1 := (h.at_ _ _ _).2 ⟨p.2, rising_get hr hp, (tagOf_iff (h.ser _ hp).1).1 ht⟩
  obtain ⟨kb, vb, h1, h2, _⟩ := at_open hat
  rw [vals_some h1]
  exact List.mem_map.2 ⟨_, get_some h2, rfl⟩
theorem parts_all {nm : BA} {μ : Me} (h : MeOk nm μ) (hr : RisingK μ.ss) (k : BA) (hv : RisingK (valsOf μ k)) (hx : ∀ v, RisingK (textsOf μ k v)) :
    μ.ss.length = (μ.ss.filter fun p => (tagOf k p).isNone).length + (((valsOf μ k).map (·.1)).map fun v => (textsOf μ k v).length).sum := by
  have hn : ((valsOf μ k).map (·.1)).Nodup := by
    unfold List.Nodup
    refine List.Pairwise.imp (R := sLt) ?_ (List.pairwise_map.2 hv)
    intro a b hl e
    rw [e] at hl
    exact sLt_irr _ hl
  rw [parts_sum (tagOf k) _ hn μ.ss fun p hp v ht => vals_has h hr hp ht]
  simp only [texts_len h hr (hx _)]
end Go.Proofs.Ytobcpafalfdpkaa
