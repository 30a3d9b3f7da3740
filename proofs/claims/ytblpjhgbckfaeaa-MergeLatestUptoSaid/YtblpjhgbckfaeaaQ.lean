/- Merge's second half: rows of its own, the rounds. No condition. -/
import Derived.Test.YtblpjhgbckfaeaaO
namespace Go.Proofs.Ytblpjhgbckfaeaa
open Go.RowKit Go.WideMaps Go.Sort
theorem zinfo33 : (Try.prog.info? 33).map (fun i => (i.size, i.bytes, i.zero.map (·.cells.size))) = some (4, 40, some 4) := by kernel_rfl
theorem zparts33 : ∃ i z, Try.prog.info? 33 = some i ∧ i.zero = some z ∧ i.size = 4 ∧ i.bytes = 40 ∧ z.cells.size = 4 := by
  have e1 := zinfo33
  cases h : Try.prog.info? 33 with
  | none => rw [h] at e1; cases e1
  | some i =>
    rw [h] at e1
    simp only [Option.map_some, Option.some.injEq, Prod.mk.injEq] at e1
    obtain ⟨h1, h2, h3⟩ := e1
    cases hz : i.zero with
    | none => rw [hz] at h3; cases h3
    | some z =>
      rw [hz] at h3
      exact ⟨i, z, rfl, hz, h1, h2, by simpa using h3⟩
theorem zinfo28 : (Try.prog.info? 28).map (fun i => (i.size, i.bytes, i.zero.map (·.cells.size))) = some (3, 56, some 3) := by kernel_rfl
theorem zparts28 : ∃ i z, Try.prog.info? 28 = some i ∧ i.zero = some z ∧ i.size = 3 ∧ i.bytes = 56 ∧ z.cells.size = 3 := by
  have e1 := zinfo28
  cases h : Try.prog.info? 28 with
  | none => rw [h] at e1; cases e1
  | some i =>
    rw [h] at e1
    simp only [Option.map_some, Option.some.injEq, Prod.mk.injEq] at e1
    obtain ⟨h1, h2, h3⟩ := e1
    cases hz : i.zero with
    | none => rw [hz] at h3; cases h3
    | some z =>
      rw [hz] at h3
      exact ⟨i, z, rfl, hz, h1, h2, by simpa using h3⟩
theorem row_form {w : World} {base n size : Nat} {t : TypeId} {v : Value} {xs : List Value} (h : w.ownsRow base t size v n xs) : ∃ a c, v = .slice a n c := by
  rcases h.2 with ⟨h1, h2⟩ | ⟨g, c, cur, h1, _⟩
  · exact ⟨none, 0, by rw [h1, h2]⟩
  · exact ⟨_, c, h1⟩
theorem row_later {w w' : World} {base n size : Nat} {e : TypeId} {v : Value} {xs : List Value} (h : w.ownsRow base e size v n xs) (hb : Below w.heap.size w w') : w'.ownsRow base e size v n xs :=
  ownsRow_same h fun g hg => hb.block g (h.lt g hg).2
theorem row_lower {w : World} {b b' n size : Nat} {t : TypeId} {v : Value} {xs : List Value} (h : w.ownsRow b t size v n xs) (hb : b' ≤ b) : w.ownsRow b' t size v n xs := by
  refine ⟨h.1, ?_⟩
  rcases h.2 with hh | ⟨g', c, cur, hh, h1, hrest⟩
  · exact .inl hh
  · exact .inr ⟨g', c, cur, hh, Nat.le_trans hb h1, hrest⟩
theorem row_cellsB {w : World} {b n size g : Nat} {t : TypeId} {v : Value} {xs : List Value} (h : w.ownsRow b t size v n xs) (hg : v.ownBlock = some g) : ∃ cur, w.heap[g]? = some (.cells cur t (0, 0)) := by
  rcases h.2 with ⟨rfl, _⟩ | ⟨g', c, cur, rfl, _, h2, _⟩
  · cases hg
  · cases hg; exact ⟨cur, h2⟩
theorem types_apart {w : World} {b b' n n' z z' : Nat} {t t' : TypeId} {u v : Value} {xs ys : List Value} (hu : w.ownsRow b t z u n xs) (hv : w.ownsRow b' t' z' v n' ys) (ht : t ≠ t') {k : Nat} (hk : u.ownBlock = some k) : v.ownBlock ≠ some k := fun e => by
  obtain ⟨c1, h1⟩ := row_cellsB hu hk
  obtain ⟨c2, h2⟩ := row_cellsB hv e
  rw [h1] at h2
  simp at h2
  exact ht h2.2
theorem key_cells {w : World} {base n c : Nat} {a : Option Addr} {ks : List Ky} (h : w.ownsRow base 47 2 (.slice a n c) n (ks.flatMap encP)) (hl : ks.length = n) {k : Nat} {p : Ky} (hp : ks[k]? = some p) : ∃ g, a = some ⟨g, 0, none⟩ ∧ w.cell? ⟨g, k * 2, none⟩ = some (.string p.1) ∧ w.cell? ⟨g, k * 2 + 1, none⟩ = some (.string p.2) := by
  obtain ⟨hk, _⟩ := List.getElem?_eq_some_iff.1 hp
  rcases h.2 with ⟨_, h0⟩ | ⟨g, c', cur, hv, _⟩
  · omega
  · injection hv with e1 e2 e3
    subst e1
    have key : ∀ i, i < 2 → w.cell? ⟨g, k * 2 + i, none⟩ = (encP p)[i]? := fun i hi => by
      rw [h.cellAt (k * 2 + i) (by omega)]
      exact flat_at encP 2 (fun _ => rfl) ks k i p hp hi
    exact ⟨g, rfl, key 0 (by omega), key 1 (by omega)⟩
theorem time_cells {w : World} {base n c : Nat} {a : Option Addr} {P : List (Int × PV)} (h : w.ownsRow base 2 1 (.slice a n c) n (P.map fun p => Value.int .i64 p.1)) (hl : P.length = n) {k : Nat} {p : Int × PV} (hp : P[k]? = some p) : ∃ g cur, a = some ⟨g, 0, none⟩ ∧ w.heap[g]? = some (.cells cur 2 (0, 0)) ∧ w.cell? ⟨g, k, none⟩ = some (.int .i64 p.1) := by
  obtain ⟨hk, _⟩ := List.getElem?_eq_some_iff.1 hp
  have hc := h
  rcases h.2 with ⟨_, h0⟩ | ⟨g, c', cur, hv, _, h2, _⟩
  · omega
  · injection hv with e1 e2 e3
    subst e1
    refine ⟨g, cur, rfl, h2, ?_⟩
    rw [hc.cellAt k (by omega), List.getElem?_map, hp]; rfl
/-- While a column's points are appended. -/
def In5 (w5 : World) (cb : Nat) (se fi : ByteArray) (P : List (Int × PV)) (n : Nat) (i : Value) (wr : World) : Prop :=
  ∃ (j : Nat) (pv : Value), j ≤ n ∧ i = .int .i64 j ∧ Turns (fun k => k = cb) w5 wr ∧ wr.heap[cb]? = some (.cells #[.string se, .string fi, pv] 28 (0, 0)) ∧ wr.ownsRow w5.heap.size 33 4 pv j (ptC (P.take j))
theorem in5_step {w5 wr w9 : World} {cb j n pc c9 : Nat} {se fi : ByteArray} {P : List (Int × PV)} {p : Int × PV} {pa a9 : Option Addr} {o : Obj} {xs : List Value} (hj : j < n) (hp : P[j]? = some p) (ht : Turns (fun k => k = cb) w5 wr) (hcb : cb < w5.heap.size)
    (hc9 : w9.heap[cb]? = some (.cells #[.string se, .string fi, .slice pa j pc] 28 (0, 0))) (hpv : wr.ownsRow w5.heap.size 33 4 (.slice pa j pc) j xs) (hr : w9.ownsRow w5.heap.size 33 4 (.slice a9 (j + 1) c9) (j + 1) (ptC (P.take j) ++ ptV p)) (hg : (wr.alloc o).drew.grownBy w9 (Value.slice pa j pc).ownBlock) (i : Value) (hi : i = .int .i64 ((j + 1 : Nat) : Int)) :
    In5 w5 cb se fi P n i (w9.setCell ⟨cb, 2, none⟩ (.slice a9 (j + 1) c9)) := by
  have hsz := hg.size
  simp only [World.size_drew, World.size_alloc] at hsz
  have h1 : Turns (fun k => w5.heap.size ≤ k) wr w9 := ⟨hg.os, hg.tape, hg.output, by omega, fun k hk hn => (hg.block k (by simp; omega) (fun e => hn (hpv.lt k e.symm).1)).trans (heap_alloc_old wr o hk)⟩
  have h2 : Turns (fun k => k = cb) w5 w9 := ht.trans h1 fun x hx => .inr hx
  refine ⟨j + 1, .slice a9 (j + 1) c9, by omega, hi, h2.trans ((onlyD_set w9 cb 2 _).turns (S := fun k => k = cb) rfl) (fun x hx => .inl hx), ?_, ?_⟩
  · have := heap_setCell_same w9 cb 2 _ _ (.slice a9 (j + 1) c9) hc9
    rw [this]; rfl
  · obtain ⟨hk, rfl⟩ := List.getElem?_eq_some_iff.1 hp
    rw [List.take_succ_eq_append_getElem hk, ptC_append]
    refine ownsRow_same (w := w9) (by simpa [ptC] using hr) fun g hgg => (onlyD_set w9 cb 2 _).2.2.2.2 g fun e => ?_
    have := (hr.lt g hgg).1
    omega
/-- The table is as it was. -/
theorem tab_turns {w5 wr : World} {cb m : Nat} {L : List TE} {cs : Array Value} {t : TypeId} (h : TabAt w5 (TabS m L) m L) (hc : w5.heap[cb]? = some (.cells cs t (0, 0))) (ht : Turns (fun k => k = cb) w5 wr) : TabAt wr (TabS m L) m L :=
  h.same fun k hk hlt => ht.block k hlt fun e => h.cells (w' := w5) hc (e ▸ hk)
/-- The table's columns while they are laid. -/
def In4 (w : World) (m : Nat) (L : List TE) (T : List Tp) (n0 : Nat) (ks : List Ky) (v : Value) (n : Nat) (q i : Value) (wr : World) : Prop :=
  ∃ (k : Nat) (C : List CC), k ≤ n ∧ i = .int .i64 k ∧ C.map colOf = (ks.take k).map (colT L) ∧ C.length = k ∧ wr.ownsRow w.heap.size 28 3 q k (ccC C) ∧ (∀ y ∈ C, wr.ownsRow w.heap.size 33 4 y.v y.pts.length (ptC y.pts)) ∧ wr.ownsRow w.heap.size 47 2 v n (ks.flatMap encP) ∧ TabL w wr m L T n0
def MergePost (w : World) (T : List Tp) (e : Ending) (w' : World) : Prop :=
  ∃ (v : Value) (C : List CC), e = .returned v ∧ ColsIn w' v C ∧ Merged kLtP T (C.map colOf) ∧ Below w.heap.size w w'
theorem merge_end {w wr : World} {m n0 n : Nat} {L : List TE} {T : List Tp} {ks : List Ky} {q : Value} {C : List CC} (hF : FullT L) (hK : KeysOf L ks) (hS : SortedKs ks) (hwf : ∀ x ∈ T, (Lit.int .i64 x.t).wf = true) (hC : C.map colOf = (ks.take n).map (colT L)) (hn : ks.length = n) (hl : C.length = n) (hq : wr.ownsRow w.heap.size 28 3 q n (ccC C)) (hp : ∀ y ∈ C, wr.ownsRow w.heap.size 33 4 y.v y.pts.length (ptC y.pts)) (ht : TabL w wr m L T n0) : MergePost w T (.returned q) wr := by
  rw [List.take_of_length_le (by omega)] at hC
  have hM := tab_merged ht hF hK hS
  refine ⟨q, C, rfl, row_cols (by rw [hl]; exact hq) fun y hy => ?_, by rw [hC]; exact hM, ht.below⟩
  have h1 : colOf y ∈ ks.map (colT L) := by rw [← hC]; exact List.mem_map_of_mem hy
  obtain ⟨k, hk, he⟩ := List.mem_map.1 h1
  obtain ⟨x, hx, hxL, hkx⟩ := look_key hK hk
  have h2 := ht.tab.sizes x hxL
  have h3 : (y.se, y.fi) = k := congrArg Col.k he.symm
  rw [hkx] at h3
  injection h3 with e1 e2
  refine ⟨by rw [e1]; exact h2.1, by rw [e2]; exact h2.2, row_pts (hp y hy) fun p hp => ?_⟩
  have h4 : Has (ks.map (colT L)) (y.se, y.fi) p.1 p.2 := ⟨colOf y, h1, rfl, hp⟩
  exact hwf _ (lastV_mem ((hM.has _ _ _).1 h4))
theorem TabL.beside {w wr w8 : World} {m n b z n' : Nat} {t : TypeId} {L : List TE} {T : List Tp} {v : Value} {xs : List Value} (h : TabL w wr m L T n) (hrow : wr.ownsRow b t z v n' xs) (hb : w.heap.size ≤ b) (hg : wr.grownBy w8 v.ownBlock) : TabL w w8 m L T n :=
  ⟨h.tab.same fun k hk hlt => hg.block k hlt fun e => by
    obtain ⟨cur, hc⟩ := row_cellsB hrow e.symm
    exact h.tab.cells (w' := wr) hc hk, h.ofT, h.len, h.plen, h.new, h.below.grown hg h.below.size fun k e => Nat.le_trans hb (hrow.lt k e).1⟩
theorem in4_step {w wr w8 : World} {m n0 n k c8 : Nat} {L : List TE} {T : List Tp} {ks : List Ky} {kv q : Value} {C : List CC} {se fi : ByteArray} {x : TE} {pv : Value} {P : List (Int × PV)} {a8 : Option Addr} (hk : k < n) (hkk : ks[k]? = some (se, fi)) (hx : lookT L se fi = some x) (hP : x.pts = P)
    (hmap : C.map colOf = (ks.take k).map (colT L)) (hcl : C.length = k) (hq : wr.ownsRow w.heap.size 28 3 q k (ccC C)) (hpr : ∀ y ∈ C, wr.ownsRow w.heap.size 33 4 y.v y.pts.length (ptC y.pts)) (hkr : wr.ownsRow w.heap.size 47 2 kv n (ks.flatMap encP)) (hT : TabL w wr m L T n0)
    (hpv : wr.ownsRow w.heap.size 33 4 pv P.length (ptC P)) (hr : w8.ownsRow w.heap.size 28 3 (.slice a8 (k + 1) c8) (k + 1) (ccC C ++ [.string se, .string fi, pv])) (hg : wr.grownBy w8 q.ownBlock) (i : Value) (hi : i = .int .i64 ((k + 1 : Nat) : Int)) :
    In4 w m L T n0 ks kv n (.slice a8 (k + 1) c8) i w8 := by
  have hap : ∀ (z n' : Nat) (u : Value) (xs : List Value) (b' : Nat) (t : TypeId), t ≠ 28 → wr.ownsRow b' t z u n' xs → w8.ownsRow b' t z u n' xs := fun z n' u xs b' t ht hu => ownsRow_same hu fun y hy => hg.block y (hu.lt y hy).2 fun e => types_apart hu hq ht hy e.symm
  obtain ⟨hlt, he⟩ := List.getElem?_eq_some_iff.1 hkk
  refine ⟨k + 1, C ++ [⟨se, fi, pv, P⟩], by omega, hi, ?_, by rw [List.length_append, hcl]; rfl, ?_, fun y hy => ?_, hap _ _ _ _ _ _ (by decide) hkr, hT.beside hq (Nat.le_refl _) hg⟩
  · rw [List.map_append, hmap, List.take_succ_eq_append_getElem hlt, List.map_append, he]
    congr 1
    show [colOf ⟨se, fi, pv, P⟩] = [colT L (se, fi)]
    unfold colOf colT ptsT
    rw [hx, ← hP]
  · rw [ccC_append]
    exact hr
  · rcases List.mem_append.1 hy with hy | hy
    · exact hap _ _ _ _ _ _ (by decide) (hpr y hy)
    · rw [List.mem_singleton.1 hy]
      exact hap _ _ _ _ _ _ (by decide) hpv
end Go.Proofs.Ytblpjhgbckfaeaa
