/- What comes in, read: numbers, points, the calls of a script. No condition. -/
import Derived.Test.YtfhdaihladgchaaN
import Derived.Deep.Slices
import Derived.ChangeSlices
namespace Go.Proofs.Ytfhdaihladgchaa
open Go.RowKit Go.Deep Go.WideShapes Go.ChangeShapes
theorem cells2 : Try.prog.cellsOf 2 = 1 := by kernel_rfl
theorem cells3 : Try.prog.cellsOf 3 = 1 := by kernel_rfl
theorem cells29 : Try.prog.cellsOf 29 = 1 := by kernel_rfl
theorem cells31 : Try.prog.cellsOf 31 = 3 := by kernel_rfl
theorem cells33 : Try.prog.cellsOf 33 = 4 := by kernel_rfl
theorem cells44 : Try.prog.cellsOf 44 = 9 := by kernel_rfl
instance : Inhabited Pt := ⟨⟨0, 0, 0, ⟨#[]⟩⟩⟩
/-- A point's parts are what their types hold. -/
def PtOk (p : Pt) : Prop := -(2 ^ 63) ≤ p.t ∧ p.t < 2 ^ 63 ∧ -(2 ^ 63) ≤ p.k ∧ p.k < 2 ^ 63 ∧ 0 ≤ p.b ∧ p.b < 2 ^ 64 ∧ p.s.size ≤ maxLen
theorem wf_i64 {z : Int} (h : (Lit.int .i64 z).wf = true) : -(2 ^ 63) ≤ z ∧ z < 2 ^ 63 := by
  have : -9223372036854775808 ≤ z ∧ z ≤ 9223372036854775807 := by simpa [Lit.wf, IntKind.min, IntKind.max, IntKind.signed, IntKind.bits] using h
  omega
theorem wf_u64 {z : Int} (h : (Lit.int .u64 z).wf = true) : 0 ≤ z ∧ z < 2 ^ 64 := by
  have : 0 ≤ z ∧ z ≤ 18446744073709551615 := by simpa [Lit.wf, IntKind.min, IntKind.max, IntKind.signed, IntKind.bits] using h
  omega
set_option maxRecDepth 100000 in
theorem pt_open {H : Type} {enc : TypeId × Value → H} {W : World} {fuel : Nat} {cs : List Value} {y : DataW H × List MemPlace}
    (h2 : DataW.trod enc Try.prog W 0 (fun _ => true) true fuel 33 cs = some y) (hcl : cs.length = 4) : ∃ p : Pt, cs = ptV p ∧ PtOk p := by
  obtain ⟨xs, k, _, hxx, _, hlen, hg⟩ := DataW.trod_struct Try.underlying33 h2
  match cs, hcl, xs, hlen with
  | [c0, c1, c2, c3], _, [y0, y1], _ =>
    have e0 : DataW.trod enc Try.prog W 0 (fun _ => true) true k 2 [c0] = some y0 := by simpa [cells2] using hg 0 _ rfl
    have e1 : DataW.trod enc Try.prog W 0 (fun _ => true) true k 31 [c1, c2, c3] = some y1 := by simpa [cells2, cells31] using hg 1 _ rfl
    obtain ⟨z0, g0, _, w0⟩ := DataW.trod_int Try.underlying2 e0
    obtain ⟨xs', k', _, _, _, hlen', hg'⟩ := DataW.trod_struct Try.underlying31 e1
    match xs', hlen' with
    | [u0, u1, u2], _ =>
      have f0 : DataW.trod enc Try.prog W 0 (fun _ => true) true k' 3 [c1] = some u0 := by simpa [cells3] using hg' 0 _ rfl
      have f1 : DataW.trod enc Try.prog W 0 (fun _ => true) true k' 29 [c2] = some u1 := by simpa [cells3, cells29] using hg' 1 _ rfl
      have f2 : DataW.trod enc Try.prog W 0 (fun _ => true) true k' 9 [c3] = some u2 := by simpa [cells3, cells29, cells9] using hg' 2 _ rfl
      obtain ⟨z1, g1, _, w1⟩ := DataW.trod_int Try.underlying3 f0
      obtain ⟨z2, g2, _, w2⟩ := DataW.trod_int Try.underlying29 f1
      obtain ⟨s3, g3, _, w3⟩ := DataW.trod_string Try.underlying9 f2
      simp at g0 g1 g2 g3
      subst g0 g1 g2 g3
      exact ⟨⟨z0, z1, z2, s3⟩, rfl, (wf_i64 w0).1, (wf_i64 w0).2, (wf_i64 w1).1, (wf_i64 w1).2, (wf_u64 w2).1, (wf_u64 w2).2, w3⟩
/-- Cells of the incoming memory, one behind the other. -/
def Lies (W : World) (b : Addr) (i : Nat) (vs : List Value) : Prop := ∀ j u, vs[j]? = some u → W.cell? (b.add (i + j)) = some u
set_option maxRecDepth 100000 in
theorem pts_open {H : Type} {enc : TypeId × Value → H} {W : World} {base : Nat} {v : Value} {d : DataW H} {p : List MemPlace}
    (h : DataW.Trod enc Try.prog W 0 (fun _ => true) true 23 v d p) (o : Value.okWide Try.prog W .any base 23 v) :
    ∃ a len cap, ∃ X : Nat → Pt, v = .slice a len cap ∧ len ≤ cap ∧ len ≤ maxLen ∧ ∀ i, i < len → ∃ b, a = some b ∧ Lies W b (i * 4) (ptV (X i)) ∧ PtOk (X i) := by
  obtain ⟨a, len, cap, rfl⟩ := okWide_slice Try.underlying23 o
  obtain ⟨fuel, hf⟩ := h
  rcases open_slice Try.underlying23 hf with ⟨hcs, _⟩ | ⟨b, l, c, m, n, D, Pl, hcs, _, hl, hm, hmm, hd, hx⟩
  · simp [Value.cells] at hcs
    obtain ⟨rfl, rfl, rfl⟩ := hcs
    exact ⟨none, 0, 0, fun _ => default, rfl, Nat.le_refl _, Nat.zero_le _, fun i hi => absurd hi (by omega)⟩
  · simp [Value.cells] at hcs
    obtain ⟨rfl, rfl, rfl⟩ := hcs
    simp only [if_true] at hmm
    subst hmm
    have hy : ∀ i, i < m → ∃ x : Pt, Lies W b (i * 4) (ptV x) ∧ PtOk x := by
      intro i hi
      obtain ⟨cs', h1, h2⟩ := hx i hi
      rw [cells33] at h1
      obtain ⟨_, hcl, hcell⟩ := World.cells?_some h1
      obtain ⟨x, rfl, hok⟩ := pt_open h2 hcl
      refine ⟨x, fun j u hj => ?_, hok⟩
      have hj4 : j < 4 := (List.getElem?_eq_some_iff.1 hj).1
      have := hcell j hj4
      rw [Go.Deep.add_add] at this
      rw [this]
      exact hj
    obtain ⟨f, hf'⟩ := choose_lt hy
    exact ⟨some b, len, m, f, rfl, hl, by unfold maxLen at *; omega, fun i hi => ⟨b, rfl, hf' i (by omega)⟩⟩
/-- A call of a script. -/
structure OpX where
  kind : Int
  s : ByteArray
  f : ByteArray
  p : Pt
  a : Int
  b : Int
instance : Inhabited OpX := ⟨⟨0, ⟨#[]⟩, ⟨#[]⟩, default, 0, 0⟩⟩
def opV (x : OpX) : List Value := [.int .i64 x.kind, .string x.s, .string x.f, .int .i64 x.p.t, .int .i64 x.p.k, .int .u64 x.p.b, .string x.p.s, .int .i64 x.a, .int .i64 x.b]
def OpOk (x : OpX) : Prop := x.s.size ≤ maxLen ∧ x.f.size ≤ maxLen ∧ PtOk x.p
set_option maxRecDepth 100000 in
theorem ops_open {H : Type} {enc : TypeId × Value → H} {W : World} {base : Nat} {v : Value} {d : DataW H} {p : List MemPlace}
    (h : DataW.Trod enc Try.prog W 0 (fun _ => true) true 39 v d p) (o : Value.okWide Try.prog W .any base 39 v) :
    ∃ a len cap, ∃ X : Nat → OpX, v = .slice a len cap ∧ len ≤ cap ∧ len ≤ maxLen ∧ ∀ i, i < len → ∃ b, a = some b ∧ Lies W b (i * 9) (opV (X i)) ∧ OpOk (X i) := by
  obtain ⟨a, len, cap, rfl⟩ := okWide_slice Try.underlying39 o
  obtain ⟨fuel, hf⟩ := h
  rcases open_slice Try.underlying39 hf with ⟨hcs, _⟩ | ⟨b, l, c, m, n, D, Pl, hcs, _, hl, hm, hmm, hd, hx⟩
  · simp [Value.cells] at hcs
    obtain ⟨rfl, rfl, rfl⟩ := hcs
    exact ⟨none, 0, 0, fun _ => default, rfl, Nat.le_refl _, Nat.zero_le _, fun i hi => absurd hi (by omega)⟩
  · simp [Value.cells] at hcs
    obtain ⟨rfl, rfl, rfl⟩ := hcs
    simp only [if_true] at hmm
    subst hmm
    have hy : ∀ i, i < m → ∃ x : OpX, Lies W b (i * 9) (opV x) ∧ OpOk x := by
      intro i hi
      obtain ⟨cs', h1, h2⟩ := hx i hi
      rw [cells44] at h1
      obtain ⟨_, hcl, hcell⟩ := World.cells?_some h1
      obtain ⟨xs, k, _, hxx, _, hlen, hg⟩ := DataW.trod_struct Try.underlying44 h2
      have key : ∃ x : OpX, cs' = opV x ∧ OpOk x := by
        match cs', hcl, xs, hlen with
        | [c0, c1, c2, c3, c4, c5, c6, c7, c8], _, [y0, y1, y2, y3, y4, y5], _ =>
          have e0 : DataW.trod enc Try.prog W 0 (fun _ => true) true k 3 [c0] = some y0 := by simpa [cells3] using hg 0 _ rfl
          have e1 : DataW.trod enc Try.prog W 0 (fun _ => true) true k 9 [c1] = some y1 := by simpa [cells3, cells9] using hg 1 _ rfl
          have e2 : DataW.trod enc Try.prog W 0 (fun _ => true) true k 9 [c2] = some y2 := by simpa [cells3, cells9] using hg 2 _ rfl
          have e3 : DataW.trod enc Try.prog W 0 (fun _ => true) true k 33 [c3, c4, c5, c6] = some y3 := by simpa [cells3, cells9, cells33] using hg 3 _ rfl
          have e4 : DataW.trod enc Try.prog W 0 (fun _ => true) true k 2 [c7] = some y4 := by simpa [cells3, cells9, cells33, cells2] using hg 4 _ rfl
          have e5 : DataW.trod enc Try.prog W 0 (fun _ => true) true k 2 [c8] = some y5 := by simpa [cells3, cells9, cells33, cells2] using hg 5 _ rfl
          obtain ⟨z0, g0, _, w0⟩ := DataW.trod_int Try.underlying3 e0
          obtain ⟨s1, g1, _, w1⟩ := DataW.trod_string Try.underlying9 e1
          obtain ⟨s2, g2, _, w2⟩ := DataW.trod_string Try.underlying9 e2
          obtain ⟨x3, g3, w3⟩ := pt_open e3 rfl
          obtain ⟨z4, g4, _, w4⟩ := DataW.trod_int Try.underlying2 e4
          obtain ⟨z5, g5, _, w5⟩ := DataW.trod_int Try.underlying2 e5
          simp [ptV] at g0 g1 g2 g3 g4 g5
          obtain ⟨q0, q1, q2, q3⟩ := g3
          subst g0 g1 g2 g4 g5 q0 q1 q2 q3
          exact ⟨⟨z0, s1, s2, x3, z4, z5⟩, rfl, w1, w2, w3⟩
      obtain ⟨x, rfl, hok⟩ := key
      refine ⟨x, fun j u hj => ?_, hok⟩
      have hj4 : j < 9 := (List.getElem?_eq_some_iff.1 hj).1
      have := hcell j hj4
      rw [Go.Deep.add_add] at this
      rw [this]
      exact hj
    obtain ⟨f, hf'⟩ := choose_lt hy
    exact ⟨some b, len, m, f, rfl, hl, by unfold maxLen at *; omega, fun i hi => ⟨b, rfl, hf' i (by omega)⟩⟩
set_option maxRecDepth 100000 in
theorem ints_open {H : Type} {enc : TypeId × Value → H} {W : World} {base : Nat} {v : Value} {d : DataW H} {p : List MemPlace}
    (h : DataW.Trod enc Try.prog W 0 (fun _ => true) true 22 v d p) (o : Value.okWide Try.prog W .any base 22 v) :
    ∃ a len cap, ∃ X : Nat → Int, v = .slice a len cap ∧ len ≤ cap ∧ len ≤ maxLen ∧ ∀ i, i < len → ∃ b, a = some b ∧ Lies W b i [.int .i64 (X i)] ∧ -(2 ^ 63) ≤ X i ∧ X i < 2 ^ 63 := by
  obtain ⟨a, len, cap, rfl⟩ := okWide_slice Try.underlying22 o
  obtain ⟨fuel, hf⟩ := h
  rcases open_ints Try.underlying22 Try.underlying2 cells2 hf with ⟨hcs, _⟩ | ⟨b, l, c, zs, hcs, _, hl, hm, hz, hd, hcell, hwz⟩
  · simp [Value.cells] at hcs
    obtain ⟨rfl, rfl, rfl⟩ := hcs
    exact ⟨none, 0, 0, fun _ => 0, rfl, Nat.le_refl _, Nat.zero_le _, fun i hi => absurd hi (by omega)⟩
  · simp [Value.cells] at hcs
    obtain ⟨rfl, rfl, rfl⟩ := hcs
    simp only [if_true] at hz
    refine ⟨some b, len, cap, fun i => zs.getD i 0, rfl, hl, by unfold maxLen at *; omega, fun i hi => ⟨b, rfl, fun j u hj => ?_, ?_⟩⟩
    · have hj0 : j = 0 := by have := (List.getElem?_eq_some_iff.1 hj).1; simp at this; exact this
      subst hj0
      simp at hj
      subst hj
      exact hcell i (by omega)
    · refine wf_i64 (hwz _ ?_)
      have hi' : i < zs.length := by omega
      simp [List.getD, hi']
/-- The head of an incoming slice's memory. -/
theorem lies_spot {W : World} {b : Addr} {v : Value} {vs : List Value} (h : Lies W b 0 (v :: vs)) : b.spot = none := by
  have h0 := h 0 v rfl
  exact World.cell?_spot (by simpa [Addr.add] using h0)
theorem lies_cell {W w : World} {bb off i j : Nat} {u : Value} {vs : List Value} (h : Lies W ⟨bb, off, none⟩ i vs) (hb : Below W.heap.size W w) (hj : vs[j]? = some u) : w.cell? ⟨bb, off + i + j, none⟩ = some u := by
  have h0 := h j u hj
  rw [addr_lit] at h0
  rw [hb.cell (World.block_lt_of_cell? W _ (by rw [Nat.add_assoc]; exact h0)), Nat.add_assoc]
  exact h0
/-- The cache's state in a law: all its memory is new. -/
def CState (W w : World) (c m : Nat) (L : List Col) (most : Int) : Prop := ∃ S, CacheAt w S c m L most (total L) ∧ (∀ x, S x → W.heap.size ≤ x) ∧ Below W.heap.size W w
theorem CState.later {W w w' : World} {c m : Nat} {L : List Col} {most : Int} (h : CState W w c m L most) (hb : Below w.heap.size w w') : CState W w' c m L most := by
  obtain ⟨S, h1, h2, h3⟩ := h
  exact ⟨S, h1.later hb, h2, h3.trans (hb.mono h3.size)⟩
theorem CState.below {W w : World} {c m : Nat} {L : List Col} {most : Int} (h : CState W w c m L most) : Below W.heap.size W w := h.choose_spec.2.2
theorem CState.new {W w w' : World} {n : Int} (hb0 : Below W.heap.size W w) (h : CacheAt w' (fun k => k = w.heap.size ∨ k = w.heap.size + 1) (w.heap.size + 1) w.heap.size [] (max n 0) 0) (hb : Below w.heap.size w w') : CState W w' (w.heap.size + 1) w.heap.size [] (max n 0) :=
  ⟨_, h, fun x hx => by have := hb0.size; rcases hx with rfl | rfl <;> omega, hb0.trans (hb.mono hb0.size)⟩
theorem put_st {W : World} (w : World) {c m : Nat} {L : List Col} {most : Int} (s f : ByteArray) (p : Pt) (h : CState W w c m L most) (hs : s.size ≤ maxLen) (hf : f.size ≤ maxLen) (hpb : 0 ≤ p.b ∧ p.b < 2 ^ 64) (hps : p.s.size ≤ maxLen) (hn : total L ≤ 1000000000000) :
    Calls Try.prog 10 #[.pointer (some ⟨c, 0, none⟩), .string s, .string f, .agg #[.int .i64 p.t, .int .i64 p.k, .int .u64 p.b, .string p.s]] w fun e w' =>
      ∃ L', e = .returned (.int .i64 (putE (ptsOf (look L s f)) (total L) most p)) ∧ CState W w' c m L' most ∧ (∀ s' f', ptsOf (look L' s' f') = if s' = s ∧ f' = f then putN (ptsOf (look L s f)) (total L) most p else ptsOf (look L s' f')) ∧ total L' = total L + putD (ptsOf (look L s f)) (total L) most p := by
  obtain ⟨S, h1, h2, h3⟩ := h
  refine (putC10 w S c m L most s f p h1 hs hf hpb hps hn).mono ?_
  rintro e w' ⟨L', he, ht, hc, hl, htot⟩
  exact ⟨L', he, ⟨_, hc, fun x hx => by rcases hx with hx | hx; exact h2 x hx; have := h3.size; omega, h3.trans (ht.below h3.size h2)⟩, hl, htot⟩
theorem get_st {W : World} (w : World) {c m : Nat} {L : List Col} {most : Int} (s f : ByteArray) (a b : Int) (h : CState W w c m L most) (hs : s.size ≤ maxLen) (hf : f.size ≤ maxLen) (hn : total L ≤ 1000000000000) :
    Calls Try.prog 11 #[.pointer (some ⟨c, 0, none⟩), .string s, .string f, .int .i64 a, .int .i64 b] w fun e w' => ∃ v base, e = .returned v ∧ w.heap.size ≤ base ∧ w'.ownsRow base 33 4 v (rng (ptsOf (look L s f)) a b).length (ptC (rng (ptsOf (look L s f)) a b)) ∧ Below w.heap.size w w' := by
  obtain ⟨S, h1, h2, h3⟩ := h
  exact getC w S c m L most _ s f a b h1 hs hf (Nat.le_trans (len_le h1 s f) hn)
theorem size_st {W : World} (w : World) {c m : Nat} {L : List Col} {most : Int} (h : CState W w c m L most) :
    Calls Try.prog 13 #[.pointer (some ⟨c, 0, none⟩)] w fun e w' => e = .returned (.int .i64 (total L)) ∧ w = w' := by
  obtain ⟨S, h1, h2, h3⟩ := h
  exact sizeC w S c m L most _ h1
end Go.Proofs.Ytfhdaihladgchaa
