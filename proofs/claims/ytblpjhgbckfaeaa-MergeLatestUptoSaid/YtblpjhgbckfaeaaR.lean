/- What comes in, read: lists of columns of points. No condition. -/
import Derived.Test.YtblpjhgbckfaeaaS
import Derived.Test.YtblpjhgbckfaeaaRows
import Derived.Deep.Slices
import Derived.ChangeSlices
namespace Go.Proofs.Ytblpjhgbckfaeaa
open Go.RowKit Go.Deep Go.WideShapes Go.ChangeShapes
theorem cells2 : Try.prog.cellsOf 2 = 1 := by kernel_rfl
theorem cells3 : Try.prog.cellsOf 3 = 1 := by kernel_rfl
theorem cells24 : Try.prog.cellsOf 24 = 1 := by kernel_rfl
theorem cells26 : Try.prog.cellsOf 26 = 1 := by kernel_rfl
theorem cells28 : Try.prog.cellsOf 28 = 3 := by kernel_rfl
theorem cells29 : Try.prog.cellsOf 29 = 1 := by kernel_rfl
theorem cells31 : Try.prog.cellsOf 31 = 3 := by kernel_rfl
theorem cells33 : Try.prog.cellsOf 33 = 4 := by kernel_rfl
set_option maxRecDepth 100000 in
theorem pt_open {H : Type} {enc : TypeId × Value → H} {W : World} {fuel : Nat} {cs : List Value} {y : DataW H × List MemPlace}
    (h2 : DataW.trod enc Try.prog W 0 (fun _ => true) true fuel 33 cs = some y) (hcl : cs.length = 4) : ∃ p : Int × PV, cs = ptV p ∧ (Lit.int .i64 p.1).wf = true := by
  obtain ⟨xs, k, _, hxx, _, hlen, hg⟩ := DataW.trod_struct Try.underlying33 h2
  match cs, hcl, xs, hlen with
  | [c0, c1, c2, c3], _, [y0, y1], _ =>
    have e0 : DataW.trod enc Try.prog W 0 (fun _ => true) true k 2 [c0] = some y0 := by simpa [cells2] using hg 0 _ rfl
    have e1 : DataW.trod enc Try.prog W 0 (fun _ => true) true k 31 [c1, c2, c3] = some y1 := by simpa [cells2, cells31] using hg 1 _ rfl
    obtain ⟨z0, g0, _, w0⟩ := DataW.trod_int Try.underlying2 e0
    obtain ⟨xs', k', _, _, _, hlen', hg'⟩ := DataW.trod_struct Try.underlying31 e1
    match xs', hlen' with
    | [u0, u1, u2], _ =>
      have f0 : DataW.trod enc Try.prog W 0 (fun _ => true) true k' 3 [c1] = some u0 := by simpa [cells3] using hg' 0 _ rfl
      have f1 : DataW.trod enc Try.prog W 0 (fun _ => true) true k' 29 [c2] = some u1 := by simpa [cells3, cells29] using hg' 1 _ rfl
      have f2 : DataW.trod enc Try.prog W 0 (fun _ => true) true k' 9 [c3] = some u2 := by simpa [cells3, cells29, cells9] using hg' 2 _ rfl
      obtain ⟨z1, g1, _, w1⟩ := DataW.trod_int Try.underlying3 f0
      obtain ⟨z2, g2, _, w2⟩ := DataW.trod_int Try.underlying29 f1
      obtain ⟨s3, g3, _, w3⟩ := DataW.trod_string Try.underlying9 f2
      simp at g0 g1 g2 g3
      subst g0 g1 g2 g3
      exact ⟨(z0, ⟨z1, z2, s3⟩), rfl, w0⟩
/-- Cells of the incoming memory, one behind the other. -/
def Lies (W : World) (b : Addr) (i : Nat) (vs : List Value) : Prop := ∀ j u, vs[j]? = some u → W.cell? (b.add (i + j)) = some u
theorem lies_spot {W : World} {b : Addr} {v : Value} {vs : List Value} (h : Lies W b 0 (v :: vs)) : b.spot = none := by
  have h0 := h 0 v rfl
  exact World.cell?_spot (by simpa [Addr.add] using h0)
theorem add_lit (b off i : Nat) : (⟨b, off, none⟩ : Addr).add i = ⟨b, off + i, none⟩ := by unfold Addr.add; split <;> simp_all
theorem lies_cell {W : World} {bb off i j : Nat} {u : Value} {vs : List Value} (h : Lies W ⟨bb, off, none⟩ i vs) (hj : vs[j]? = some u) : W.cell? ⟨bb, off + i + j, none⟩ = some u := by
  have h0 := h j u hj
  rw [add_lit, ← Nat.add_assoc] at h0
  exact h0
theorem lies_of {W : World} {a : Addr} {i n : Nat} {cs : List Value} (h : W.cells? 0 (a.add i) n = some cs) : cs.length = n ∧ Lies W a i cs := by
  obtain ⟨_, hcl, hcell⟩ := World.cells?_some h
  refine ⟨hcl, fun j u hj => ?_⟩
  have hjn : j < n := by rw [← hcl]; exact (List.getElem?_eq_some_iff.1 hj).1
  have := hcell j hjn
  rw [Go.Deep.add_add] at this
  rw [this]
  exact hj
theorem bulk_pos {H : Type} (d : DataW H) : 1 ≤ Rows.uptoBulk d := by
  cases d with
  | lit l => cases l <;> simp [Rows.uptoBulk]
  | _ => simp [Rows.uptoBulk]
theorem bulkAll_append {H : Type} : ∀ A B : List (DataW H), Rows.uptoBulkAll (A ++ B) = Rows.uptoBulkAll A + Rows.uptoBulkAll B
  | [], B => by simp [Rows.uptoBulkAll]
  | x :: A, B => by simp only [List.cons_append, Rows.uptoBulkAll, bulkAll_append A B]; omega
theorem bulk_map {H α : Type} (g : α → Nat) (f : Nat → α) (D : Nat → DataW H) : ∀ m, (∀ i, i < m → g (f i) ≤ Rows.uptoBulk (D i)) → (((List.range m).map f).map g).sum ≤ Rows.uptoBulkAll ((List.range m).map D)
  | 0, _ => Nat.zero_le _
  | m + 1, h => by
    have ih := bulk_map g f D m fun i hi => h i (by omega)
    have h1 := h m (by omega)
    rw [List.range_succ, List.map_append, List.map_append, List.map_append, bulkAll_append, List.sum_append]
    simp only [List.map_cons, List.map_nil, Rows.uptoBulkAll, List.sum_cons, List.sum_nil]
    omega
theorem ones_sum {α : Type} (f : Nat → α) : ∀ l, (((List.range l).map f).map fun _ => 1).sum = l
  | 0 => rfl
  | l + 1 => by rw [List.range_succ, List.map_append, List.map_append, List.sum_append, ones_sum f l]; rfl
instance : Inhabited CC := ⟨⟨⟨#[]⟩, ⟨#[]⟩, undef, []⟩⟩
instance : Inhabited LL := ⟨⟨undef, []⟩⟩
theorem range_get {α : Type} {f : Nat → α} {l k : Nat} {x : α} (h : ((List.range l).map f)[k]? = some x) : k < l ∧ f k = x := by
  obtain ⟨hk, he⟩ := List.getElem?_eq_some_iff.1 h
  simp at hk he
  exact ⟨hk, he⟩
set_option maxRecDepth 100000 in
theorem pts_in {H : Type} {enc : TypeId × Value → H} {W : World} {fuel : Nat} {u : Value} {y : DataW H × List MemPlace} (h : DataW.trod enc Try.prog W 0 (fun _ => true) true fuel 26 [u] = some y) :
    ∃ P, PtsIn W u P ∧ P.length + 1 ≤ Rows.uptoBulk y.1 := by
  rcases open_slice Try.underlying26 h with ⟨hcs, hx⟩ | ⟨b, l, c, m, n, D, Pl, hcs, _, hl, hm, hmm, hd, hx⟩
  · injection hcs with hcs _
    exact ⟨[], ⟨none, 0, hcs, fun k p hp => by simp at hp⟩, bulk_pos _⟩
  · injection hcs with hcs _
    simp only [if_true] at hmm
    subst hmm hcs
    have hy : ∀ i, i < m → ∃ x : Int × PV, Lies W b (i * 4) (ptV x) ∧ (Lit.int .i64 x.1).wf = true := by
      intro i hi
      obtain ⟨cs', h1, h2⟩ := hx i hi
      rw [cells33] at h1
      obtain ⟨hcl, hli⟩ := lies_of h1
      obtain ⟨x, rfl, hok⟩ := pt_open h2 hcl
      exact ⟨x, hli, hok⟩
    obtain ⟨f, hf⟩ := choose_lt hy
    refine ⟨(List.range l).map f, ⟨some b, m, by simp, fun k p hp => ?_⟩, ?_⟩
    · obtain ⟨hk, rfl⟩ := range_get hp
      obtain ⟨hli, hok⟩ := hf k (by omega)
      have h0 := (hf 0 (by omega)).1
      rw [Nat.zero_mul] at h0
      have hsp := lies_spot h0
      obtain ⟨bb, off, spot⟩ := b
      simp only at hsp
      subst hsp
      exact ⟨hok, bb, off, rfl, lies_cell (j := 0) hli rfl, lies_cell (j := 1) hli rfl, lies_cell (j := 2) hli rfl, lies_cell (j := 3) hli rfl⟩
    · rw [hd]
      have h1 := bulk_map (fun _ => 1) f D l fun i _ => bulk_pos (D i)
      simp only [Rows.uptoBulk, List.length_map, List.length_range]
      have h2 := ones_sum f l
      omega
def cB (C : List CC) : Nat := (C.map fun x => x.pts.length + 1).sum
theorem cB_eq (C : List CC) : cB C = (trC C).length + C.length := by
  unfold cB trC
  induction C with
  | nil => rfl
  | cons x C ih =>
    rw [List.map_cons, List.sum_cons, ih, List.flatMap_cons, List.length_append, List.length_cons]
    simp only [trP, List.length_map]
    omega
set_option maxRecDepth 100000 in
theorem cols_in {H : Type} {enc : TypeId × Value → H} {W : World} {fuel : Nat} {u : Value} {y : DataW H × List MemPlace} (h : DataW.trod enc Try.prog W 0 (fun _ => true) true fuel 24 [u] = some y) :
    ∃ C, ColsIn W u C ∧ cB C + 1 ≤ Rows.uptoBulk y.1 := by
  rcases open_slice Try.underlying24 h with ⟨hcs, hx⟩ | ⟨b, l, c, m, n, D, Pl, hcs, _, hl, hm, hmm, hd, hx⟩
  · injection hcs with hcs _
    exact ⟨[], ⟨none, 0, hcs, fun k p hp => by simp at hp⟩, bulk_pos _⟩
  · injection hcs with hcs _
    simp only [if_true] at hmm
    subst hmm hcs
    have hy : ∀ i, i < m → ∃ x : CC, Lies W b (i * 3) (ccV x) ∧ x.se.size ≤ maxLen ∧ x.fi.size ≤ maxLen ∧ PtsIn W x.v x.pts ∧ x.pts.length + 1 ≤ Rows.uptoBulk (D i) := by
      intro i hi
      obtain ⟨cs', h1, h2⟩ := hx i hi
      rw [cells28] at h1
      obtain ⟨hcl, hli⟩ := lies_of h1
      obtain ⟨xs, k, _, hxx, _, hlen, hg⟩ := DataW.trod_struct Try.underlying28 h2
      match cs', hcl, xs, hlen with
      | [c0, c1, c2], _, [y0, y1, y2], _ =>
        have e0 : DataW.trod enc Try.prog W 0 (fun _ => true) true k 9 [c0] = some y0 := by simpa [cells9] using hg 0 _ rfl
        have e1 : DataW.trod enc Try.prog W 0 (fun _ => true) true k 9 [c1] = some y1 := by simpa [cells9] using hg 1 _ rfl
        have e2 : DataW.trod enc Try.prog W 0 (fun _ => true) true k 26 [c2] = some y2 := by simpa [cells9, cells26] using hg 2 _ rfl
        obtain ⟨s0, g0, _, w0⟩ := DataW.trod_string Try.underlying9 e0
        obtain ⟨s1, g1, _, w1⟩ := DataW.trod_string Try.underlying9 e1
        obtain ⟨P, hP, hPb⟩ := pts_in e2
        simp at g0 g1
        subst g0 g1
        refine ⟨⟨s0, s1, c2, P⟩, hli, w0, w1, hP, ?_⟩
        have hD : D i = .agg [y0.1, y1.1, y2.1] := by
          have := congrArg Prod.fst hxx
          simpa using this
        rw [hD]
        simp only [Rows.uptoBulk, Rows.uptoBulkAll]
        omega
    obtain ⟨f, hf⟩ := choose_lt hy
    refine ⟨(List.range l).map f, ⟨some b, m, by simp, fun k p hp => ?_⟩, ?_⟩
    · obtain ⟨hk, rfl⟩ := range_get hp
      obtain ⟨hli, h1, h2, h3, _⟩ := hf k (by omega)
      have h0 := (hf 0 (by omega)).1
      rw [Nat.zero_mul] at h0
      have hsp := lies_spot h0
      obtain ⟨bb, off, spot⟩ := b
      simp only at hsp
      subst hsp
      exact ⟨h1, h2, h3, bb, off, rfl, lies_cell (j := 0) hli rfl, lies_cell (j := 1) hli rfl, lies_cell (j := 2) hli rfl⟩
    · rw [hd]
      have h1 := bulk_map (fun x : CC => x.pts.length + 1) f D l fun i hi => (hf i (by omega)).2.2.2.2
      simp only [Rows.uptoBulk]
      unfold cB
      omega
def lB (L : List LL) : Nat := (L.map fun x => cB x.cs + 1).sum
theorem lB_le (L : List LL) : (trL L).length ≤ lB L ∧ L.length ≤ lB L ∧ ∀ x ∈ L, x.cs.length ≤ lB L := by
  unfold lB trL
  induction L with
  | nil => exact ⟨Nat.le_refl _, Nat.le_refl _, fun _ h => nomatch h⟩
  | cons x L ih =>
    obtain ⟨h1, h2, h3⟩ := ih
    rw [List.map_cons, List.sum_cons, List.flatMap_cons, List.length_append, List.length_cons]
    have hc := cB_eq x.cs
    refine ⟨by omega, by omega, fun y hy => ?_⟩
    rcases List.mem_cons.1 hy with rfl | hy
    · omega
    · have := h3 y hy; omega
set_option maxRecDepth 100000 in
theorem lists_in {H : Type} {enc : TypeId × Value → H} {W : World} {base : Nat} {v : Value} {d : DataW H} {p : List MemPlace}
    (h : DataW.Trod enc Try.prog W 0 (fun _ => true) true 22 v d p) (o : Value.okWide Try.prog W .any base 22 v) :
    ∃ L, ListsIn W v L ∧ lB L + 1 ≤ Rows.uptoBulk d ∧ ∃ a c, v = .slice a L.length c ∧ L.length ≤ c := by
  obtain ⟨a, len, cap, rfl⟩ := okWide_slice Try.underlying22 o
  obtain ⟨fuel, hf⟩ := h
  rcases open_slice Try.underlying22 hf with ⟨hcs, _⟩ | ⟨b, l, c, m, n, D, Pl, hcs, _, hl, hm, hmm, hd, hx⟩
  · simp [Value.cells] at hcs
    obtain ⟨rfl, rfl, rfl⟩ := hcs
    exact ⟨[], ⟨none, 0, rfl, fun k p hp => by simp at hp⟩, bulk_pos _, none, 0, rfl, Nat.le_refl _⟩
  · simp [Value.cells] at hcs
    obtain ⟨rfl, rfl, rfl⟩ := hcs
    simp only [if_true] at hmm
    subst hmm
    have hy : ∀ i, i < m → ∃ x : LL, Lies W b (i * 1) [x.v] ∧ ColsIn W x.v x.cs ∧ cB x.cs + 1 ≤ Rows.uptoBulk (D i) := by
      intro i hi
      obtain ⟨cs', h1, h2⟩ := hx i hi
      rw [cells24] at h1
      obtain ⟨hcl, hli⟩ := lies_of h1
      match cs', hcl with
      | [c0], _ =>
        obtain ⟨C, hC, hCb⟩ := cols_in h2
        exact ⟨⟨c0, C⟩, hli, hC, hCb⟩
    obtain ⟨f, hf⟩ := choose_lt hy
    refine ⟨(List.range len).map f, ⟨some b, m, by simp, fun k p hp => ?_⟩, ?_, some b, m, by simp, by simpa using hl⟩
    · obtain ⟨hk, rfl⟩ := range_get hp
      obtain ⟨hli, h1, _⟩ := hf k (by omega)
      have h0 := (hf 0 (by omega)).1
      rw [Nat.zero_mul] at h0
      have hsp := lies_spot h0
      obtain ⟨bb, off, spot⟩ := b
      simp only at hsp
      subst hsp
      rw [Nat.mul_one] at hli
      exact ⟨h1, bb, off, rfl, lies_cell (j := 0) hli rfl⟩
    · have hd' : d = _ := congrArg Prod.fst hd
      rw [hd']
      have h1 := bulk_map (fun x : LL => cB x.cs + 1) f D len fun i hi => (hf i (by omega)).2.2
      simp only [Rows.uptoBulk]
      unfold lB
      omega
end Go.Proofs.Ytblpjhgbckfaeaa
