/- The two disks' files stay alike under the small changes. No condition. -/
import Derived.Test.YtjkgcpbgacdgaaaAF
import Derived.Laws.AppendOwnNone
import Derived.Maps.AppendAt
namespace Go.Proofs.Ytjkgcpbgacdgaaa
open Go.RowKit Go.Sort
theorem like_set {L : List Ent} {R : List RFile} (h : Like L R) (ha : Apart (L.map pE)) {k : Nat} {x : RFile} {s : ByteArray} (hx : R[k]? = some x) (hn : x.name = s) (v v' : Value) (bs : List Value) (syn : Int) :
    Like (setF L s v bs syn) (R.set k ⟨x.name, v', bs, syn⟩) := by
  subst hn
  unfold Like
  have hp : (L.map pE)[k]? = some (pR x) := by rw [h, List.getElem?_map, hx]; rfl
  have := setP_at ha hp bs syn
  rw [setF_p, show x.name = (pR x).name from rfl, this, h, List.map_set]; rfl
theorem like_drop {L : List Ent} {R : List RFile} (h : Like L R) (ha : Apart (L.map pE)) {k : Nat} {x : RFile} {s : ByteArray} (hx : R[k]? = some x) (hn : x.name = s) : Like (dropE L s) (R.eraseIdx k) := by
  subst hn
  unfold Like
  have hp : (L.map pE)[k]? = some (pR x) := by rw [h, List.getElem?_map, hx]; rfl
  have := dropP_at ha hp
  rw [dropE_p, show x.name = (pR x).name from rfl, this, h]
  simp [List.eraseIdx_eq_take_drop_succ]
theorem like_drop_none {L : List Ent} {R : List RFile} (h : Like L R) {s : ByteArray} (hn : ∀ x ∈ R, x.name ≠ s) : Like (dropE L s) R := by
  unfold Like
  rw [dropE_p, dropP_none, h]
  intro x hx
  rw [h] at hx
  obtain ⟨y, hy, rfl⟩ := List.mem_map.1 hx
  exact hn y hy
theorem apart_drop {L : List Ent} (h : Apart (L.map pE)) (s : ByteArray) : Apart ((dropE L s).map pE) := by
  rw [dropE_p]
  exact h.sublist List.filter_sublist
/-- A file's place by its name: behind those whose names are less. -/
def Place (R : List RFile) (s : ByteArray) (k : Nat) : Prop := k ≤ R.length ∧ (∀ j, (hj : j < k) → ∀ hj' : j < R.length, Op.bytesLess R[j].name.data.toList s.data.toList = true) ∧ ∀ hk : k < R.length, Op.bytesLess R[k].name.data.toList s.data.toList = false
theorem like_ins {L : List Ent} {R : List RFile} (h : Like L R) {k : Nat} {e : Ent} {y : RFile} (hp : Place R y.name k) (hn : ∀ x ∈ R, x.name ≠ y.name) (he : pE e = pR y) : Like (insE e L) (R.take k ++ y :: R.drop k) := by
  unfold Like
  rw [insE_p, h, he, insP_at (k := k)]
  · simp
  · simpa using hp.1
  · intro j hj hj'
    have := hp.2.1 j hj (by simpa using hj')
    simpa [pR] using this
  · intro hk
    have := hp.2.2 (by simpa using hk)
    simpa [pR] using this
  · intro z hz
    obtain ⟨w, hw, rfl⟩ := List.mem_map.1 hz
    exact hn w hw
theorem refCells_append : ∀ A B : List RFile, refCells (A ++ B) = refCells A ++ refCells B
  | [], _ => rfl
  | x :: r, B => by simp [refCells, refCells_append r B]
theorem refCells_take : ∀ (R : List RFile) (k : Nat), (refCells R).take (k * 3) = refCells (R.take k)
  | [], k => by simp [refCells]
  | x :: r, 0 => by simp [refCells]
  | x :: r, k + 1 => by
    have e1 : (k + 1) * 3 = k * 3 + 1 + 1 + 1 := by omega
    rw [e1]
    simp only [refCells, List.take_succ_cons, refCells_take r k]
theorem refCells_drop : ∀ (R : List RFile) (k : Nat), (refCells R).drop (k * 3) = refCells (R.drop k)
  | [], k => by simp [refCells]
  | x :: r, 0 => by simp [refCells]
  | x :: r, k + 1 => by
    have e1 : (k + 1) * 3 = k * 3 + 1 + 1 + 1 := by omega
    rw [e1]
    simp only [refCells, List.drop_succ_cons, refCells_drop r k]
/-- What an append of elements of several cells reads. -/
def SrcN (w : World) (size : Nat) (src : Value) (m : Nat) (news : List Value) : Prop :=
  news.length = m * size ∧ ((src = .slice none 0 0 ∧ m = 0) ∨ ∃ ad c, src = .slice (some ad) m c ∧ (∀ j u, news[j]? = some u → w.cell? (ad.add j) = some u) ∧ ∀ u ∈ news, u.oneCell' = true)
theorem wpList_append_srcN {P : Program} {w : World} {ops : Array Oper} {rest : List Oper} {o : Oper} {a : Act} {Q : Exit → Act → World → Prop} (hgd : o.guard = none) (s x : Operand) (t : TypeId)
    (ho : o.op = .call { callee := .builtin .append, args := #[s, x], argTypes := #[t, t] })
    (base : Nat) (e : TypeId) (i : TypeInfo) (z : Value) (size bytes : Nat) (ht : P.underlying t = some (.slice e)) (hi : P.info? e = some i) (hz : i.zero = some z)
    (hsize : i.size = size) (hby : i.bytes = bytes) (hzs : z.cells.size = size) (hsz : 0 < size)
    (v : Value) (n : Nat) (xs : List Value) (hs : a.eval s = v) (hown : w.ownsRow base e size v n xs)
    (src : Value) (m : Nat) (news : List Value) (hx : a.eval x = src) (hsrc : SrcN w size src m news)
    (h63 : n + m ≤ maxLen) (hbytes : (n + m) * bytes ≤ 140737488355328) (hbase : base ≤ w.heap.size)
    (h : ∀ v' w', w'.ownsRow base e size v' (n + m) (xs ++ news) → w.grownBy w' v.ownBlock → (v'.ownBlock = v.ownBlock ∨ v'.ownBlock = some w.heap.size) → wpList P ops Q rest (a.put o.dst v') w') :
    wpList P ops Q (o :: rest) a w := by
  obtain ⟨hl, ⟨rfl, rfl⟩ | ⟨ad, c, rfl, h1, h2⟩⟩ := hsrc
  · have hn : news = [] := List.eq_nil_of_length_eq_zero (by simpa using hl)
    subst hn
    exact wpList_append_own_none hgd s x t ho base e i size ht hi v n xs hs hown hx (h v w (by simpa using hown) (World.grownBy.refl _ _) (.inl rfl))
  · exact wpList_append_own_at w hgd s x t ho base e i z size bytes ht hi hz hsize hby hzs hsz v n xs hs hown ad m c news hx hl h1 h2 h63 hbytes hbase fun v' w' k1 k2 _ k4 => h v' w' k1 k2 k4
theorem step_append_srcN {P : Program} {w : World} {ops : Array Oper} {o : Oper} {a : Act} {K : Act → World → Prop} {Q : Exit → Act → World → Prop} {E : Prop} (hgd : o.guard = none) (s x : Operand) (t : TypeId)
    (ho : o.op = .call { callee := .builtin .append, args := #[s, x], argTypes := #[t, t] })
    (base : Nat) (e : TypeId) (i : TypeInfo) (z : Value) (size bytes : Nat) (ht : P.underlying t = some (.slice e)) (hi : P.info? e = some i) (hz : i.zero = some z)
    (hsize : i.size = size) (hby : i.bytes = bytes) (hzs : z.cells.size = size) (hsz : 0 < size)
    (v : Value) (n : Nat) (xs : List Value) (hs : a.eval s = v) (hown : w.ownsRow base e size v n xs)
    (src : Value) (m : Nat) (news : List Value) (hx : a.eval x = src) (hsrc : SrcN w size src m news)
    (h63 : n + m ≤ maxLen) (hbytes : (n + m) * bytes ≤ 140737488355328) (hbase : base ≤ w.heap.size)
    (h : ∀ ao cap w', w'.ownsRow base e size (.slice ao (n + m) cap) (n + m) (xs ++ news) → w.grownBy w' v.ownBlock → (∀ b, (Value.slice ao (n + m) cap).ownBlock = some b → v.ownBlock = some b ∨ b = w.heap.size) → K (a.put o.dst (.slice ao (n + m) cap)) w') :
    if Region.wanted o (yielded ops a.tmps) = true then Oper.wp P o a w K Q else E := by
  have hw : Region.wanted o (yielded ops a.tmps) = true := by simp [Region.wanted, hgd]
  rw [if_pos hw]
  obtain ⟨v', w', hr, h2, h3, h4⟩ : ∃ v' w', (Builtin.append_ #[t, t] o.type #[v, src]).run P w = .ok v' w' ∧ w'.ownsRow base e size v' (n + m) (xs ++ news) ∧ w.grownBy w' v.ownBlock ∧ (v'.ownBlock = v.ownBlock ∨ v'.ownBlock = some w.heap.size) := by
    obtain ⟨hl, ⟨rfl, rfl⟩ | ⟨ad, c, rfl, h1, h2⟩⟩ := hsrc
    · have hn : news = [] := List.eq_nil_of_length_eq_zero (by simpa using hl)
      subst hn
      exact ⟨v, w, run_append_owned_none (P := P) w base t o.type e i size ht hi v n xs hown, by simpa using hown, World.grownBy.refl _ _, .inl rfl⟩
    · obtain ⟨v', w', k1, k2, k3, _, k5⟩ := run_append_own_at (P := P) w base t o.type e i z size bytes ht hi hz hsize hby hzs hsz v n xs hown ad m c news hl h1 h2 h63 hbytes hbase
      exact ⟨v', w', k1, k2, k3, k5⟩
  obtain ⟨ao, cap, rfl⟩ : ∃ ao cap, v' = .slice ao (n + m) cap := by
    rcases h2.2 with ⟨rfl, h0⟩ | ⟨g, cap, cur, rfl, _⟩
    · exact ⟨none, 0, by rw [h0]⟩
    · exact ⟨_, cap, rfl⟩
  unfold Oper.wp execOp
  simp only [ho, resolve, invoke, builtin, Sem.run_bind, Sem.run_pure, Result.andThen_ok, List.map_toArray, List.map_cons, List.map_nil, hs, hx, hr]
  refine h ao cap w' h2 h3 fun b hb => ?_
  rcases h4 with h5 | h5
  · exact .inl (h5.symm.trans hb)
  · exact .inr (Option.some.inj (hb.symm.trans h5))
theorem SrcN.of_block {w : World} {B size m : Nat} {cs : Array Value} {t : TypeId} {fr : Nat × Nat} (hb : w.heap[B]? = some (.cells cs t fr)) (hl : cs.size = m * size) (h1 : ∀ u ∈ cs.toList, u.oneCell' = true) (c : Nat) : SrcN w size (.slice (some ⟨B, 0, none⟩) m c) m cs.toList :=
  ⟨by simpa using hl, .inr ⟨_, c, rfl, World.news_of_block hb, h1⟩⟩
/-- Below block number H the world is as it was, and no block has gone. -/
def Far (H : Nat) (a b : World) : Prop := a.heap.size ≤ b.heap.size ∧ ∀ k, k < H → b.heap[k]? = a.heap[k]?
theorem Far.cell {H : Nat} {a b : World} (h : Far H a b) {p : Addr} (hp : p.block < H) : b.cell? p = a.cell? p := World.cell?_of_block (h.2 _ hp)
theorem Far.frozen {H : Nat} {a b : World} (h : Far H a b) {p : Addr} (hp : p.block < H) : b.frozen? p = a.frozen? p := World.frozen?_of_block (h.2 _ hp)
theorem Far.trans {H : Nat} {a b c : World} (h : Far H a b) (k : Far H b c) : Far H a c := ⟨Nat.le_trans h.1 k.1, fun i hi => (k.2 i hi).trans (h.2 i hi)⟩
theorem Far.grown {H : Nat} {a b : World} {row : Option Nat} (hH : H ≤ a.heap.size) (hg : a.grownBy b row) (ho : ∀ k, row = some k → H ≤ k) : Far H a b :=
  ⟨hg.size, fun k hk => hg.block k (by omega) (fun e => by have := ho k e.symm; omega)⟩
theorem Far.alloc {H : Nat} (a : World) (hH : H ≤ a.heap.size) (o : Obj) : Far H a ((a.alloc o).drew) := ⟨by simp, fun k hk => heap_alloc_old a o (by omega)⟩
theorem Far.alloc0 {H : Nat} (a : World) (hH : H ≤ a.heap.size) (o : Obj) : Far H a (a.alloc o) := ⟨by simp, fun k hk => heap_alloc_old a o (by omega)⟩
theorem refCells_one : ∀ (R : List RFile), (∀ e ∈ R, ∃ a n c, e.v = .slice a n c) → ∀ u ∈ refCells R, u.oneCell' = true
  | [], _, u, h => by simp [refCells] at h
  | x :: r, hs, u, h => by
    simp only [refCells, List.mem_cons] at h
    rcases h with rfl | rfl | rfl | h
    · rfl
    · obtain ⟨a, n, c, hv⟩ := hs x (by simp)
      rw [hv]; rfl
    · rfl
    · exact refCells_one r (fun e he => hs e (by simp [he])) u h
theorem add_add (ad : Addr) (i j : Nat) : (ad.add i).add j = ad.add (i + j) := by
  unfold Addr.add
  by_cases h0 : i = 0 <;> by_cases h1 : j = 0 <;> simp [h0, h1] <;> omega
theorem SrcN.later {w w' : World} {size m : Nat} {v : Value} {news : List Value} (h : SrcN w size v m news) (hb : Below w.heap.size w w') : SrcN w' size v m news := by
  obtain ⟨h0, h | ⟨ad, c', rfl, h1, h2⟩⟩ := h
  · exact ⟨h0, .inl h⟩
  · refine ⟨h0, .inr ⟨ad, c', rfl, fun j u hj => ?_, h2⟩⟩
    have := h1 j u hj
    rw [hb.cell (World.block_lt_of_cell? w _ this)]
    exact this
theorem below_drewN {B : Nat} {a w : World} (h : Below B a w) (n : Nat) : Below B a (w.drewN n) := ⟨h.os, h.tape, h.output, h.size, h.block⟩
/-- A row cut at a place: the two slice expressions, and what an append of either reads. -/
theorem cutRow {w : World} {base n cap k : Nat} {a : Option Addr} {R : List RFile} (hrow : w.ownsRow base 106 3 (.slice a n cap) n (refCells R)) (hN : R.length = n) (hk : k ≤ n) (hs : ∀ e ∈ R, ∃ a n c, e.v = .slice a n c) :
    ∃ a2, (∀ w', (Instr.slice 94 (.slice a n cap) none (some (.int .i64 (k : Int))) none).run Try.prog w' = .ok (.slice a k cap) w') ∧ (∀ w', (Instr.slice 94 (.slice a n cap) (some (.int .i64 (k : Int))) none none).run Try.prog w' = .ok (.slice a2 (n - k) (cap - k)) w') ∧
      SrcN w 3 (.slice a k cap) k (refCells (R.take k)) ∧ SrcN w 3 (.slice a2 (n - k) (cap - k)) (n - k) (refCells (R.drop k)) := by
  have hnc : n ≤ cap := by
    rcases hrow.2 with ⟨h1, h2⟩ | ⟨g, cap', cur, hv, _, _, h3, _⟩
    · omega
    · injection hv with _ _ e3
      subst e3
      exact h3
  have hl1 : (refCells (R.take k)).length = k * 3 := by rw [refCells_len, List.length_take, hN, Nat.min_eq_left hk]
  have hl2 : (refCells (R.drop k)).length = (n - k) * 3 := by rw [refCells_len, List.length_drop, hN]
  refine ⟨if cap = k then a else a.map (·.add (k * 3)), ?_, ?_, ⟨hl1, ?_⟩, hl2, ?_⟩
  · intro w'
    have h1 : ¬ (cap : Int) < k := by omega
    simp [Instr.slice, Instr.sliceBounds, Instr.sliceBound, asIntOf, go_sem]
    omega
  · intro w'
    have hso : (Try.prog.info? 106).map (·.size) = some 3 := by kernel_rfl
    simp [Instr.slice, Instr.sliceBounds, Instr.sliceBound, asIntOf, go_sem]
    intro hbad
    omega
  · rcases hrow.2 with ⟨h1, h2⟩ | ⟨g, cap', cur, hv, _⟩
    · injection h1 with e1 e2 e3
      subst e1 e3
      have : k = 0 := by omega
      subst this
      exact .inl ⟨rfl, rfl⟩
    · injection hv with e1 e2 e3
      subst e1 e3
      refine .inr ⟨_, _, rfl, fun j u hj => ?_, refCells_one _ fun e he => hs e (List.mem_of_mem_take he)⟩
      have hc := hrow.cells (g := g) rfl
      rw [← refCells_take, List.getElem?_take] at hj
      split at hj
      · exact hc j u hj
      · cases hj
  · rcases hrow.2 with ⟨h1, h2⟩ | ⟨g, cap', cur, hv, _⟩
    · injection h1 with e1 e2 e3
      subst e1 e3
      have : k = 0 := by omega
      subst this
      subst h2
      exact .inl ⟨by simp, rfl⟩
    · injection hv with e1 e2 e3
      subst e1 e3
      refine .inr ⟨if cap = k then ⟨g, 0, none⟩ else (⟨g, 0, none⟩ : Addr).add (k * 3), cap - k, by by_cases hck : cap = k <;> simp [hck], fun j u hj => ?_, refCells_one _ fun e he => hs e (List.mem_of_mem_drop he)⟩
      have hc := hrow.cells (g := g) rfl
      have hjl : j < (n - k) * 3 := by
        rcases Nat.lt_or_ge j ((n - k) * 3) with h | h
        · exact h
        · rw [List.getElem?_eq_none (by omega)] at hj; cases hj
      rw [← refCells_drop, List.getElem?_drop] at hj
      rw [if_neg (by omega), add_add]
      exact hc _ u hj
end Go.Proofs.Ytjkgcpbgacdgaaa
