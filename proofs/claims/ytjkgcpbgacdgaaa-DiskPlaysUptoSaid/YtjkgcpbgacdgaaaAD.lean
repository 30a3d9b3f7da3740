/- The document's disk: a cell of a file's entry is written. No condition. -/
import Derived.Test.YtjkgcpbgacdgaaaAC
namespace Go.Proofs.Ytjkgcpbgacdgaaa
open Go.RowKit Go.Sort
theorem refCells_syn : ∀ (R : List RFile) (k : Nat) (x : RFile) (z : Int), R[k]? = some x → refCells (R.set k ⟨x.name, x.v, x.bs, z⟩) = (refCells R).set (k * 3 + 2) (.int .i64 z)
  | [], k, x, z, h => by simp at h
  | y :: r, 0, x, z, h => by
    simp at h
    subst h
    rfl
  | y :: r, k + 1, x, z, h => by
    have := refCells_syn r k x z (by simpa using h)
    have e1 : (k + 1) * 3 + 2 = k * 3 + 2 + 1 + 1 + 1 := by omega
    rw [e1]
    simp only [List.set_cons_succ, refCells]
    rw [this]
theorem refCells_bs : ∀ (R : List RFile) (k : Nat) (x : RFile) (v : Value) (bs : List Value), R[k]? = some x → refCells (R.set k ⟨x.name, v, bs, x.syn⟩) = (refCells R).set (k * 3 + 1) v
  | [], k, x, v, bs, h => by simp at h
  | y :: r, 0, x, v, bs, h => by
    simp at h
    subst h
    rfl
  | y :: r, k + 1, x, v, bs, h => by
    have := refCells_bs r k x v bs (by simpa using h)
    have e1 : (k + 1) * 3 + 1 = k * 3 + 1 + 1 + 1 + 1 := by omega
    rw [e1]
    simp only [List.set_cons_succ, refCells]
    rw [this]
/-- A cell of a row of one's own is written. -/
theorem ownsRow_set {w : World} {base n size g i cap : Nat} {t : TypeId} {u : Value} {xs : List Value} (h : w.ownsRow base t size (.slice (some ⟨g, 0, none⟩) n cap) n xs) : (w.setCell ⟨g, i, none⟩ u).ownsRow base t size (.slice (some ⟨g, 0, none⟩) n cap) n (xs.set i u) := by
  obtain ⟨h0, h⟩ := h
  refine ⟨by rw [List.length_set]; exact h0, ?_⟩
  rcases h with ⟨h1, _⟩ | ⟨g', cap', cur, hv, h1, h2, h3, h4, h5, h6⟩
  · cases h1
  · cases hv
    refine .inr ⟨g, cap, _, rfl, h1, heap_setCell_same w g i cur t u h2, h3, h4, by simpa using h5, ?_⟩
    simp only [Array.toList_setIfInBounds]
    rw [List.take_set, h6]
/-- A file's mark is set in its entry. -/
theorem RefAt.mark {w : World} {T : Nat → Prop} {r : Nat} {R : List RFile} {room fuse : Int} {down : Bool} (h : RefAt w T r R room fuse down) {k g cap : Nat} {x : RFile} (hx : R[k]? = some x) (hc : w.cell? ⟨r, 0, none⟩ = some (.slice (some ⟨g, 0, none⟩) R.length cap)) (z : Int) :
    RefAt (w.setCell ⟨g, k * 3 + 2, none⟩ (.int .i64 z)) T r (R.set k ⟨x.name, x.v, x.bs, z⟩) room fuse down ∧ T g := by
  obtain ⟨fv, fz, hb, hz, hrow, hap⟩ := h.blk
  have hfv : fv = .slice (some ⟨g, 0, none⟩) R.length cap := by
    simp [World.cell?, hb] at hc
    exact hc
  subst hfv
  have o := onlyD_set w g (k * 3 + 2) (.int .i64 z)
  obtain ⟨hTg, hg⟩ := hap g rfl
  have hgr : r ≠ g := by
    rintro rfl
    rcases hrow.2 with ⟨h1, _⟩ | ⟨g', cap', cur, hv, _, h2, _⟩
    · cases h1
    · cases hv
      rw [hb] at h2
      simp at h2
  have hmem : ∀ y ∈ R.set k ⟨x.name, x.v, x.bs, z⟩, ∃ y' ∈ R, y.v = y'.v ∧ y.bs = y'.bs := fun y hy => by
    rcases List.mem_or_eq_of_mem_set hy with h1 | rfl
    · exact ⟨y, h1, rfl, rfl⟩
    · exact ⟨x, List.mem_of_getElem? hx, rfl, rfl⟩
  refine ⟨⟨⟨.slice (some ⟨g, 0, none⟩) R.length cap, fz, (o.2.2.2.2 r hgr).trans hb, hz, ?_, fun g' hg' => ?_⟩, fun y hy => ?_, h.here⟩, hTg⟩
  · rw [refCells_syn R k x z hx, List.length_set]
    exact ownsRow_set hrow
  · refine ⟨(hap g' hg').1, fun y hy => ?_⟩
    obtain ⟨y', hy', e1, _⟩ := hmem y hy
    rw [e1]
    exact (hap g' hg').2 y' hy'
  · obtain ⟨y', hy', e1, e2⟩ := hmem y hy
    rw [e1, e2]
    obtain ⟨hs, hr⟩ := h.bytes y' hy'
    refine ⟨hs.same fun g' hg' => o.2.2.2.2 g' (fun e => hg y' hy' (by rw [hg', e])), fun g' hg' => ?_⟩
    have := hr g' hg'
    rw [o.2.2.2.1]
    exact this
end Go.Proofs.Ytjkgcpbgacdgaaa
