/- The document's disk: what stays of it, a new row of its files, a file's bytes written in its entry. No condition. -/
import Derived.Test.YtjkgcpbgacdgaaaAE
namespace Go.Proofs.Ytjkgcpbgacdgaaa
open Go.RowKit Go.Sort
theorem heap_lt {w : World} {k : Nat} {o : Obj} (hh : w.heap[k]? = some o) : k < w.heap.size := by
  rcases Nat.lt_or_ge k w.heap.size with h | h
  · exact h
  · rw [Array.getElem?_eq_none h] at hh; cases hh
section
variable {w w' : World} {T T' : Nat → Prop} {r : Nat} {R R' : List RFile} {room fuse : Int} {down : Bool}
theorem RefAt.same2 (h : RefAt w T r R room fuse down) (hs : w.heap.size ≤ w'.heap.size) (hk : ∀ k, T k → k < w.heap.size → w'.heap[k]? = w.heap[k]?) : RefAt w' T r R room fuse down := by
  obtain ⟨fv, fz, hb, hz, hrow, hap⟩ := h.blk
  refine ⟨⟨fv, fz, (hk r h.here (heap_lt hb)).trans hb, hz, ownsRow_same hrow fun g hg => hk g (hap g hg).1 (hrow.lt g hg).2, hap⟩, fun e he => ⟨(h.bytes e he).1.same fun g hg => hk g ((h.bytes e he).2 g hg).1 ((h.bytes e he).2 g hg).2.2, fun g hg => ?_⟩, h.here⟩
  have := (h.bytes e he).2 g hg
  exact ⟨this.1, this.2.1, Nat.lt_of_lt_of_le this.2.2 hs⟩
theorem RefAt.later (h : RefAt w T r R room fuse down) (hb : Below w.heap.size w w') : RefAt w' T r R room fuse down :=
  h.same2 hb.size fun k _ hk => hb.block k hk
theorem RefAt.beside {S : Nat → Prop} (h : RefAt w T r R room fuse down) (ht : Turns S w w') (hd : ∀ k, T k → k < w.heap.size → ¬ S k) : RefAt w' T r R room fuse down :=
  h.same2 ht.size fun k hk hl => ht.block k hl (hd k hk hl)
theorem RefAt.more (h : RefAt w T r R room fuse down) (hs : ∀ k, T k → T' k) : RefAt w T' r R room fuse down := by
  obtain ⟨fv, fz, hb, hz, hrow, hap⟩ := h.blk
  exact ⟨⟨fv, fz, hb, hz, hrow, fun g hg => ⟨hs g (hap g hg).1, (hap g hg).2⟩⟩, fun e he => ⟨(h.bytes e he).1, fun g hg => ⟨hs g ((h.bytes e he).2 g hg).1, ((h.bytes e he).2 g hg).2⟩⟩, hs r h.here⟩
/-- A file's bytes lie in the document's blocks. -/
def BytesOf (w : World) (T : Nat → Prop) (r : Nat) (e : RFile) : Prop := Src w e.v e.bs ∧ ∀ g, e.v.ownBlock = some g → T g ∧ g ≠ r ∧ g < w.heap.size
theorem BytesOf.same2 {e : RFile} (h : BytesOf w T r e) (hs : w.heap.size ≤ w'.heap.size) (hk : ∀ k, T k → k ≠ r → k < w.heap.size → w'.heap[k]? = w.heap[k]?) : BytesOf w' T r e :=
  ⟨h.1.same fun g hg => hk g (h.2 g hg).1 (h.2 g hg).2.1 (h.2 g hg).2.2, fun g hg => ⟨(h.2 g hg).1, (h.2 g hg).2.1, Nat.lt_of_lt_of_le (h.2 g hg).2.2 hs⟩⟩
/-- Another row of files, laid in new memory. -/
theorem RefAt.row (h : RefAt w T r R room fuse down) (ht : Turns (fun k => k = r) w w') (fv' : Value)
    (hb' : ∀ fv fz, w.heap[r]? = some (.cells #[fv, .int .i64 room, .bool (decide (0 ≤ fuse)), .int .i64 fz, .bool down] 96 (0, 0)) → w'.heap[r]? = some (.cells #[fv', .int .i64 room, .bool (decide (0 ≤ fuse)), .int .i64 fz, .bool down] 96 (0, 0)))
    (hrow' : w'.ownsRow w.heap.size 106 3 fv' R'.length (refCells R')) (hbytes : ∀ e ∈ R', BytesOf w T r e) : RefAt w' (With T w w') r R' room fuse down := by
  obtain ⟨fv, fz, hb, hz, hrow, hap⟩ := h.blk
  have hnew := fun g hg => hrow'.lt g hg
  refine ⟨⟨fv', fz, hb' fv fz hb, hz, ?_, fun g hg => ⟨.inr ⟨(hnew g hg).1, (hnew g hg).2⟩, fun e he hg' => ?_⟩⟩, fun e he => ?_, .inl h.here⟩
  · obtain ⟨h0, h1⟩ := hrow'
    refine ⟨h0, ?_⟩
    rcases h1 with h1 | ⟨g, cap, cur, h1, h2, h3⟩
    · exact .inl h1
    · exact .inr ⟨g, cap, cur, h1, Nat.zero_le _, h3⟩
  · have := ((hbytes e he).2 g hg').2.2
    have := (hnew g hg).1
    omega
  · have hB := (hbytes e he).same2 (w' := w') ht.size fun k _ hk hl => ht.block k hl hk
    exact ⟨hB.1, fun g hg => ⟨.inl (hB.2 g hg).1, (hB.2 g hg).2⟩⟩
theorem RefAt.row_block (h : RefAt w T r R room fuse down) {g cap n : Nat} (hc : w.cell? ⟨r, 0, none⟩ = some (.slice (some ⟨g, 0, none⟩) n cap)) : T g ∧ g ≠ r ∧ g < w.heap.size ∧ n = R.length ∧ ∀ e ∈ R, e.v.ownBlock ≠ some g := by
  obtain ⟨fv, fz, hb, hz, hrow, hap⟩ := h.blk
  have hfv : fv = .slice (some ⟨g, 0, none⟩) n cap := by
    simp [World.cell?, hb] at hc
    exact hc
  subst hfv
  obtain ⟨hTg, hg⟩ := hap g rfl
  refine ⟨hTg, ?_, (hrow.lt g rfl).2, ?_, hg⟩
  · rintro rfl
    rcases hrow.2 with ⟨h1, _⟩ | ⟨g', cap', cur, hv, _, h2, _⟩
    · cases h1
    · cases hv
      rw [hb] at h2
      simp at h2
  · rcases hrow.2 with ⟨h1, _⟩ | ⟨g', cap', cur, hv, _, h2, _⟩
    · cases h1
    · cases hv
      rfl
/-- A file's bytes are set in its entry. -/
theorem RefAt.putV (h : RefAt w T r R room fuse down) {k g cap : Nat} {x : RFile} (hx : R[k]? = some x) (hc : w.cell? ⟨r, 0, none⟩ = some (.slice (some ⟨g, 0, none⟩) R.length cap)) (v : Value) (bs : List Value)
    (hv : BytesOf w T r ⟨x.name, v, bs, x.syn⟩) (hg : v.ownBlock ≠ some g) :
    RefAt (w.setCell ⟨g, k * 3 + 1, none⟩ v) T r (R.set k ⟨x.name, v, bs, x.syn⟩) room fuse down := by
  obtain ⟨hTg, hgr, _, _, hgs⟩ := h.row_block hc
  obtain ⟨fv, fz, hb, hz, hrow, hap⟩ := h.blk
  have hfv : fv = .slice (some ⟨g, 0, none⟩) R.length cap := by
    simp [World.cell?, hb] at hc
    exact hc
  subst hfv
  have o := onlyD_set w g (k * 3 + 1) v
  have hB : ∀ {e : RFile}, BytesOf w T r e → e.v.ownBlock ≠ some g → BytesOf (w.setCell ⟨g, k * 3 + 1, none⟩ v) T r e := fun {e} he hn =>
    ⟨he.1.same fun g' hg' => o.2.2.2.2 g' (fun e1 => hn (by rw [hg', e1])), fun g' hg' => by have := he.2 g' hg'; rw [o.2.2.2.1]; exact this⟩
  refine ⟨⟨.slice (some ⟨g, 0, none⟩) R.length cap, fz, (o.2.2.2.2 r (fun e => hgr e.symm)).trans hb, hz, ?_, fun g' hg' => ?_⟩, fun y hy => ?_, h.here⟩
  · rw [refCells_bs R k x v bs hx, List.length_set]
    exact ownsRow_set hrow
  · cases hg'
    refine ⟨hTg, fun y hy => ?_⟩
    rcases List.mem_or_eq_of_mem_set hy with h1 | rfl
    · exact hgs y h1
    · exact hg
  · rcases List.mem_or_eq_of_mem_set hy with h1 | rfl
    · exact hB (h.bytes y h1) (hgs y h1)
    · exact hB hv hg
end
theorem like_len {L : List Ent} {R : List RFile} (h : Like L R) : L.length = R.length := by
  have := congrArg List.length h
  simpa using this
theorem like_lens {L : List Ent} {R : List RFile} (h : Like L R) : lens L = lensR R := by
  have e1 : lens L = ((L.map pE).map fun e => e.bs.length).sum := by unfold lens; rw [List.map_map]; rfl
  have e2 : lensR R = ((R.map pR).map fun e => e.bs.length).sum := by unfold lensR; rw [List.map_map]; rfl
  rw [e1, e2, h]
theorem DiskAt.apartP {w : World} {S : Nat → Prop} {d m : Nat} {L : List Ent} {room fuse : Int} {down : Bool} (h : DiskAt w S d m L room fuse down) : Apart (L.map pE) := by
  unfold Apart
  rw [List.pairwise_map]
  refine h.names.imp ?_
  intro a b hab e
  exact hab (by show key a.name = key b.name; exact congrArg key e)
theorem find_like {L : List Ent} {R : List RFile} (h : Like L R) (ha : Apart (L.map pE)) (s : ByteArray) :
    (∃ (k : Nat) (x : RFile) (e : Ent), findI R s = k ∧ R[k]? = some x ∧ L[k]? = some e ∧ x.name = s ∧ look L s = some e ∧ pE e = pR x) ∨ (findI R s = -1 ∧ look L s = none ∧ ∀ x ∈ R, x.name ≠ s) := by
  by_cases hn : findI R s < 0
  · refine .inr ?_
    unfold findI at hn ⊢
    cases hf : R.findIdx? (fun e => decide (e.name = s)) with
    | some k => rw [hf] at hn; exact absurd hn (by simp)
    | none =>
      rw [List.findIdx?_eq_none_iff] at hf
      have h1 : ∀ x ∈ R, x.name ≠ s := fun x hx => by simpa using hf x hx
      refine ⟨rfl, ?_, h1⟩
      have h2 : lookP (L.map pE) s = none := by
        rw [h]
        refine lookP_none fun x hx => ?_
        obtain ⟨y, hy, rfl⟩ := List.mem_map.1 hx
        exact h1 y hy
      rw [look_p] at h2
      simpa using h2
  · obtain ⟨k, x, h1, h2, h3, h4⟩ := findI_lt hn
    have hp : (L.map pE)[k]? = some (pR x) := by rw [h, List.getElem?_map, h3]; rfl
    have hl := lookP_at ha hp
    rw [look_p] at hl
    have e1 : (pR x).name = s := h4
    rw [e1] at hl
    obtain ⟨e, he, hpe⟩ := Option.map_eq_some_iff.1 hl
    rw [List.getElem?_map] at hp
    obtain ⟨e', he', hpe'⟩ := Option.map_eq_some_iff.1 hp
    refine .inl ⟨k, x, e, h1, h3, ?_, h4, he, hpe⟩
    -- the entry that is found stands at k
    have hm := look_mem he
    obtain ⟨j, hj, rfl⟩ := List.getElem_of_mem hm
    have hjj : (L.map pE)[j]? = some (pR x) := by rw [List.getElem?_map, List.getElem?_eq_getElem hj]; simp [hpe]
    have hkk : (L.map pE)[k]? = some (pR x) := by rw [List.getElem?_map, he']; simp [hpe']
    have := apart_at ha hjj hkk rfl
    subst this
    exact List.getElem?_eq_getElem hj
end Go.Proofs.Ytjkgcpbgacdgaaa
