/- The walk of IndexPlays. No condition. -/
import Derived.Test.YtobcpafalfdpkaaBO
namespace Go.Proofs.Ytobcpafalfdpkaa
open Go.RowKit Go.WideMaps Go.Sort Go.Deep Go.WideShapes Go.ChangeShapes
structure OpX where
  call : Int
  s : Sr
  f : BA
  k : Int
instance : Inhabited OpX := ⟨⟨0, default, ba0, 0⟩⟩
def OpIn (W : World) (b off : Nat) (o : OpX) : Prop := ∃ a c, W.cell? ⟨b, off, none⟩ = some (.int .i64 o.call) ∧ W.cell? ⟨b, off + 1, none⟩ = some (.string o.s.name) ∧ W.cell? ⟨b, off + 2, none⟩ = some (.slice a o.s.tags.length c) ∧ W.cell? ⟨b, off + 3, none⟩ = some (.string o.f) ∧ W.cell? ⟨b, off + 4, none⟩ = some (.int .i64 o.k) ∧ SrIn W (.agg #[.string o.s.name, .slice a o.s.tags.length c]) o.s ∧ o.f.size ≤ maxLen
theorem op_in {W wr : World} {b off : Nat} {o : OpX} (h : OpIn W b off o) (hb : Below W.heap.size W wr) (hlt : b < W.heap.size) : OpIn wr b off o := by
  obtain ⟨a, c, h0, h1, h2, h3, h4, h5, h6⟩ := h
  have hk := hb.block b hlt
  exact ⟨a, c, (World.cell?_of_block (a := ⟨b, off, none⟩) hk).trans h0, (World.cell?_of_block (a := ⟨b, off + 1, none⟩) hk).trans h1, (World.cell?_of_block (a := ⟨b, off + 2, none⟩) hk).trans h2, (World.cell?_of_block (a := ⟨b, off + 3, none⟩) hk).trans h3, (World.cell?_of_block (a := ⟨b, off + 4, none⟩) hk).trans h4, h5.later hb, h6⟩
theorem cells48 : Try.prog.cellsOf 48 = 5 := by kernel_rfl
theorem cells3 : Try.prog.cellsOf 3 = 1 := by kernel_rfl
set_option maxRecDepth 100000 in
theorem ops_open {H : Type} {enc : TypeId × Value → H} {W : World} {base : Nat} {v : Value} {d : DataW H} {p : List MemPlace}
    (h : DataW.Trod enc Try.prog W 0 (fun _ => true) true 46 v d p) (o : Value.okWide Try.prog W .any base 46 v) :
    ∃ a len cap, ∃ X : Nat → OpX, v = .slice a len cap ∧ len ≤ cap ∧ len ≤ maxLen ∧ ∀ i, i < len → ∃ b off, a = some ⟨b, off, none⟩ ∧ b < W.heap.size ∧ OpIn W b (off + i * 5) (X i) := by
  obtain ⟨a, len, cap, rfl⟩ := okWide_slice Try.underlying46 o
  obtain ⟨fuel, hf⟩ := h
  rcases open_slice Try.underlying46 hf with ⟨hcs, _⟩ | ⟨b, l, c, m, n, D, Pl, hcs, _, hl, hm, hmm, hd, hx⟩
  · simp [Value.cells] at hcs
    obtain ⟨rfl, rfl, rfl⟩ := hcs
    exact ⟨none, 0, 0, fun _ => default, rfl, Nat.le_refl _, Nat.zero_le _, fun i hi => absurd hi (by omega)⟩
  · simp [Value.cells] at hcs
    obtain ⟨rfl, rfl, rfl⟩ := hcs
    simp only [if_true] at hmm
    subst hmm
    have hy : ∀ i, i < m → ∃ s : OpX, ∃ bb off, some b = some (⟨bb, off, none⟩ : Addr) ∧ bb < W.heap.size ∧ OpIn W bb (off + i * 5) s := by
      intro i hi
      obtain ⟨cs', h1, h2⟩ := hx i hi
      rw [cells48] at h1
      obtain ⟨_, hcl, hcell⟩ := World.cells?_some h1
      obtain ⟨xs, k, _, hxx, _, hlen, hg⟩ := DataW.trod_struct Try.underlying48 h2
      have key : ∃ (x : OpX) (a : Option Addr) (c : Nat), cs' = [.int .i64 x.call, .string x.s.name, .slice a x.s.tags.length c, .string x.f, .int .i64 x.k] ∧ SrIn W (.agg #[.string x.s.name, .slice a x.s.tags.length c]) x.s ∧ x.f.size ≤ maxLen := by
        match cs', hcl, xs, hlen with
        | [c0, c1, c2, c3, c4], _, [y0, y1, y2, y3], _ =>
          have e0 : DataW.trod enc Try.prog W 0 (fun _ => true) true k 3 [c0] = some y0 := by simpa [cells3] using hg 0 _ rfl
          have e1 : DataW.trod enc Try.prog W 0 (fun _ => true) true k 31 [c1, c2] = some y1 := by simpa [cells3, cells31] using hg 1 _ rfl
          have e2 : DataW.trod enc Try.prog W 0 (fun _ => true) true k 9 [c3] = some y2 := by simpa [cells3, cells31, cells9] using hg 2 _ rfl
          have e3 : DataW.trod enc Try.prog W 0 (fun _ => true) true k 3 [c4] = some y3 := by simpa [cells3, cells31, cells9] using hg 3 _ rfl
          obtain ⟨z0, g0, _, _⟩ := DataW.trod_int Try.underlying3 e0
          obtain ⟨s1, a1, c1', g1, w1⟩ := ser_trod e1 rfl
          obtain ⟨s2, g2, _, w2⟩ := DataW.trod_string Try.underlying9 e2
          obtain ⟨z3, g3, _, _⟩ := DataW.trod_int Try.underlying3 e3
          simp at g0 g1 g2 g3
          obtain ⟨q1, q2⟩ := g1
          subst g0 g2 g3 q1 q2
          exact ⟨⟨z0, s1, s2, z3⟩, a1, c1', rfl, w1, w2⟩
      obtain ⟨x, a1, c1, rfl, hsr, hfs⟩ := key
      have kk : ∀ j v, j < 5 → [Value.int .i64 x.call, .string x.s.name, .slice a1 x.s.tags.length c1, .string x.f, .int .i64 x.k][j]? = some v → W.cell? (b.add (i * 5 + j)) = some v := fun j v hj hv => by
        have := hcell j hj
        rw [Go.Deep.add_add] at this
        rw [this]; exact hv
      have hsp : b.spot = none := by
        obtain ⟨cs0, q1, q2⟩ := hx 0 (by omega)
        rw [cells48] at q1
        obtain ⟨_, ql, qc⟩ := World.cells?_some q1
        have k2 := qc 0 (by omega)
        rw [Go.Deep.add_add] at k2
        match cs0, ql with
        | [c0', _, _, _, _], _ =>
        have k3 := World.cell?_spot (v := c0') (by simpa using k2)
        simpa [Addr.add] using k3
      obtain ⟨bb, off, spot⟩ := b
      simp only at hsp
      subst hsp
      have hadd : ∀ j, (⟨bb, off, none⟩ : Addr).add j = ⟨bb, off + j, none⟩ := fun j => by unfold Addr.add; split <;> simp_all
      have k0 := kk 0 _ (by omega) rfl
      have k1 := kk 1 _ (by omega) rfl
      have k2 := kk 2 _ (by omega) rfl
      have k3 := kk 3 _ (by omega) rfl
      have k4 := kk 4 _ (by omega) rfl
      rw [hadd] at k0 k1 k2 k3 k4
      exact ⟨x, bb, off, rfl, cell_lt k0, a1, c1, k0, k1, k2, k3, k4, hsr, hfs⟩
    obtain ⟨f, hf'⟩ := choose_lt hy
    exact ⟨some b, len, m, f, rfl, hl, by unfold maxLen at *; omega, fun i hi => hf' i (by omega)⟩
theorem dual_new {W w0 w1 w2 : World} {m x : Nat} (hb0 : Below W.heap.size W w0) (hidx : IdxAt w1 (role0 m) x m [] (fun _ => me0)) (hb1 : Below w0.heap.size w0 w1) (hfr : ∀ b, role0 m b ≠ none → w0.heap.size ≤ b) (href : RefAt w2 (fun k => k = w1.heap.size) w1.heap.size [] []) (hb2 : Below w1.heap.size w1 w2) :
    ∃ ρ, Duo W w2 ρ x m [] (fun _ => me0) 0 w1.heap.size [] [] := by
  have hx := heap_lt hidx.blk
  have hturn : Turns (Own (role0 m) x) w1 w2 := Turns.of_below hb2
  refine ⟨roleR (role0 m) w1 w2, new_good (idx_ref hidx hturn), ?_, hb0.trans ((hb1.mono hb0.size).trans (hb2.mono (Nat.le_trans hb0.size hb1.size))), fun b hb => ?_⟩
  · obtain ⟨lv, kv, h1, _⟩ := href.blk
    refine href.more fun g hg hT => ⟨?_, by omega⟩
    unfold roleR
    rw [if_pos ⟨by omega, hg⟩]
  · unfold roleR at hb
    by_cases hc : w1.heap.size ≤ b ∧ b < w2.heap.size
    · have := hb0.size; have := hb1.size; omega
    · rw [if_neg hc] at hb
      exact Nat.le_trans hb0.size (hfr b hb)
end Go.Proofs.Ytobcpafalfdpkaa
