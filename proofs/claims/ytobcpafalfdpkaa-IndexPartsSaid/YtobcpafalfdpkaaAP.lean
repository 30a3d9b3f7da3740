/- The texts of a tag are the series that hold it. No condition. -/
import Derived.Test.YtobcpafalfdpkaaAO
namespace Go.Proofs.Ytobcpafalfdpkaa
open Go.RowKit Go.WideMaps Go.Sort
def tagOf (k : BA) (p : BA × SV) : Option BA := get p.2.sr.tags k
theorem tagOf_iff {k v : BA} {p : BA × SV} (h : p.2.sr.ok = true) : tagOf k p = some v ↔ (k, v) ∈ p.2.sr.tags := ⟨fun h1 => get_some h1, fun h1 => rising_get (ok_rising h) h1⟩
theorem get_isSome {α : Type} {L : List (BA × α)} {t : BA} : (get L t).isSome = true ↔ t ∈ L.map (·.1) := by
  constructor
  · intro h
    obtain ⟨a, ha⟩ := Option.isSome_iff_exists.1 h
    exact List.mem_map.2 ⟨_, get_some ha, rfl⟩
  · intro h
    obtain ⟨p, hp, e⟩ := List.mem_map.1 h
    cases hg : get L t with
    | some a => rfl
    | none => exact absurd e (get_none hg p hp)
theorem texts_keys {nm : BA} {μ : Me} (h : MeOk nm μ) (hr : RisingK μ.ss) {k v : BA} (hx : RisingK (textsOf μ k v)) : (textsOf μ k v).map (·.1) = (μ.ss.filter fun p => decide (tagOf k p = some v)).map (·.1) := by
  refine sorted_unique (r := sLt) sLt_irr (fun _ _ _ => sLt_tr) (List.pairwise_map.2 hx) (List.pairwise_map.2 (List.Pairwise.filter _ hr)) fun t => ?_
  rw [← get_isSome, List.mem_map]
  show At μ k v t ↔ _
  rw [h.at_]
  constructor
  · rintro ⟨sv, h1, h2⟩
    have hm := get_some h1
    exact ⟨_, List.mem_filter.2 ⟨hm, by rw [decide_eq_true_eq]; exact (tagOf_iff (h.ser _ hm).1).2 h2⟩, rfl⟩
  · rintro ⟨p, hp, rfl⟩
    obtain ⟨hm, hd⟩ := List.mem_filter.1 hp
    rw [decide_eq_true_eq] at hd
    exact ⟨p.2, rising_get hr hm, (tagOf_iff (h.ser _ hm).1).1 hd⟩
theorem texts_len {nm : BA} {μ : Me} (h : MeOk nm μ) (hr : RisingK μ.ss) {k v : BA} (hx : RisingK (textsOf μ k v)) : (textsOf μ k v).length = (μ.ss.filter fun p => decide (tagOf k p = some v)).length := by
  have := congrArg List.length (texts_keys h hr hx)
  simpa using this
end Go.Proofs.Ytobcpafalfdpkaa
