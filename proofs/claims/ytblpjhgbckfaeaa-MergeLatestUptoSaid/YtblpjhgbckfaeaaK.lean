/- What Merge reads: lists of columns of points in memory; the points in their order; the table of maps while it is filled. No condition. -/
import Derived.Test.YtblpjhgbckfaeaaJ
namespace Go.Proofs.Ytblpjhgbckfaeaa
open Go.RowKit Go.WideMaps
/-- A column in memory. -/
structure CC where
  se : ByteArray
  fi : ByteArray
  v : Value
  pts : List (Int × PV)
/-- A list of columns in memory. -/
structure LL where
  v : Value
  cs : List CC
instance : Inhabited PV := ⟨pv0⟩
def PtsIn (w : World) (v : Value) (P : List (Int × PV)) : Prop :=
  ∃ a c, v = .slice a P.length c ∧ ∀ k p, P[k]? = some p → (Lit.int .i64 p.1).wf = true ∧ ∃ b o, a = some ⟨b, o, none⟩ ∧ w.cell? ⟨b, o + k * 4, none⟩ = some (.int .i64 p.1) ∧ w.cell? ⟨b, o + k * 4 + 1, none⟩ = some (.int .i64 p.2.kd) ∧ w.cell? ⟨b, o + k * 4 + 2, none⟩ = some (.int .u64 p.2.bits) ∧ w.cell? ⟨b, o + k * 4 + 3, none⟩ = some (.string p.2.text)
def ColsIn (w : World) (v : Value) (C : List CC) : Prop :=
  ∃ a c, v = .slice a C.length c ∧ ∀ k x, C[k]? = some x → x.se.size ≤ maxLen ∧ x.fi.size ≤ maxLen ∧ PtsIn w x.v x.pts ∧ ∃ b o, a = some ⟨b, o, none⟩ ∧ w.cell? ⟨b, o + k * 3, none⟩ = some (.string x.se) ∧ w.cell? ⟨b, o + k * 3 + 1, none⟩ = some (.string x.fi) ∧ w.cell? ⟨b, o + k * 3 + 2, none⟩ = some x.v
def ListsIn (w : World) (v : Value) (L : List LL) : Prop :=
  ∃ a c, v = .slice a L.length c ∧ ∀ k x, L[k]? = some x → ColsIn w x.v x.cs ∧ ∃ b o, a = some ⟨b, o, none⟩ ∧ w.cell? ⟨b, o + k, none⟩ = some x.v
theorem cell_later {w w' : World} (hb : Below w.heap.size w w') {a : Addr} {u : Value} (h : w.cell? a = some u) : w'.cell? a = some u := by
  rw [hb.cell (World.block_lt_of_cell? w a h)]; exact h
theorem PtsIn.later {w w' : World} {v : Value} {P : List (Int × PV)} (h : PtsIn w v P) (hb : Below w.heap.size w w') : PtsIn w' v P := by
  obtain ⟨a, c, hv, h⟩ := h
  refine ⟨a, c, hv, fun k p hp => ?_⟩
  obtain ⟨h0, b, o, ha, h1, h2, h3, h4⟩ := h k p hp
  exact ⟨h0, b, o, ha, cell_later hb h1, cell_later hb h2, cell_later hb h3, cell_later hb h4⟩
theorem ColsIn.later {w w' : World} {v : Value} {C : List CC} (h : ColsIn w v C) (hb : Below w.heap.size w w') : ColsIn w' v C := by
  obtain ⟨a, c, hv, h⟩ := h
  refine ⟨a, c, hv, fun k x hx => ?_⟩
  obtain ⟨h0, h00, hp, b, o, ha, h1, h2, h3⟩ := h k x hx
  exact ⟨h0, h00, hp.later hb, b, o, ha, cell_later hb h1, cell_later hb h2, cell_later hb h3⟩
theorem ListsIn.later {w w' : World} {v : Value} {L : List LL} (h : ListsIn w v L) (hb : Below w.heap.size w w') : ListsIn w' v L := by
  obtain ⟨a, c, hv, h⟩ := h
  refine ⟨a, c, hv, fun k x hx => ?_⟩
  obtain ⟨hp, b, o, ha, h1⟩ := h k x hx
  exact ⟨hp.later hb, b, o, ha, cell_later hb h1⟩
/-- The points in their order, each with its column's key. -/
def trP (s f : ByteArray) (P : List (Int × PV)) : List Tp := P.map fun p => ⟨(s, f), p.1, p.2⟩
def trC (C : List CC) : List Tp := C.flatMap fun x => trP x.se x.fi x.pts
def trL (L : List LL) : List Tp := L.flatMap fun x => trC x.cs
theorem trP_snoc {s f : ByteArray} {P : List (Int × PV)} {k : Nat} {p : Int × PV} (h : P[k]? = some p) : trP s f (P.take (k + 1)) = trP s f (P.take k) ++ [⟨(s, f), p.1, p.2⟩] := by
  obtain ⟨hk, rfl⟩ := List.getElem?_eq_some_iff.1 h
  unfold trP
  rw [List.take_succ_eq_append_getElem hk, List.map_append]; rfl
theorem trC_snoc {C : List CC} {k : Nat} {x : CC} (h : C[k]? = some x) : trC (C.take (k + 1)) = trC (C.take k) ++ trP x.se x.fi x.pts := by
  obtain ⟨hk, rfl⟩ := List.getElem?_eq_some_iff.1 h
  unfold trC
  rw [List.take_succ_eq_append_getElem hk, List.flatMap_append]; simp
theorem trL_snoc {L : List LL} {k : Nat} {x : LL} (h : L[k]? = some x) : trL (L.take (k + 1)) = trL (L.take k) ++ trC x.cs := by
  obtain ⟨hk, rfl⟩ := List.getElem?_eq_some_iff.1 h
  unfold trL
  rw [List.take_succ_eq_append_getElem hk, List.flatMap_append]; simp
theorem trL_append (A B : List LL) : trL (A ++ B) = trL A ++ trL B := List.flatMap_append
theorem trC_append (A B : List CC) : trC (A ++ B) = trC A ++ trC B := List.flatMap_append
theorem trL_take_le (L : List LL) (k : Nat) : (trL (L.take k)).length ≤ (trL L).length := by
  conv => rhs; rw [← List.take_append_drop k L, trL_append, List.length_append]
  omega
theorem trC_take_le (C : List CC) (k : Nat) : (trC (C.take k)).length ≤ (trC C).length := by
  conv => rhs; rw [← List.take_append_drop k C, trC_append, List.length_append]
  omega
/-- The blocks of the table. -/
def TabS (m : Nat) (L : List TE) : Nat → Prop := fun k => k = m ∨ ∃ x ∈ L, x.b = k
/-- The table while it is filled. -/
structure TabL (w wr : World) (m : Nat) (L : List TE) (T : List Tp) (n : Nat) : Prop where
  tab : TabAt wr (TabS m L) m L
  ofT : TabOf L T
  len : L.length ≤ n
  plen : ∀ x ∈ L, x.pts.length ≤ n
  new : ∀ k, TabS m L k → w.heap.size ≤ k
  below : Below w.heap.size w wr
theorem TabL.later {w wr w' : World} {m n : Nat} {L : List TE} {T : List Tp} (h : TabL w wr m L T n) (hb : Below wr.heap.size wr w') : TabL w w' m L T n :=
  ⟨h.tab.same fun k _ hk => hb.block k hk, h.ofT, h.len, h.plen, h.new, h.below.trans (hb.mono h.below.size)⟩
theorem setT_S {m : Nat} {L : List TE} {s f : ByteArray} {P : List (Int × PV)} (k : Nat) : TabS m (setT L s f P) k ↔ TabS m L k := by
  unfold TabS
  constructor
  · rintro (h | ⟨y, hy, h⟩)
    · exact .inl h
    · obtain ⟨x, hx, _, _, h3, _⟩ := setT_mem hy
      exact .inr ⟨x, hx, h3.symm.trans h⟩
  · rintro (h | ⟨x, hx, h⟩)
    · exact .inl h
    · refine .inr ⟨_, List.mem_map.2 ⟨x, hx, rfl⟩, ?_⟩
      split <;> exact h
theorem putP_len (P : List (Int × PV)) (t : Int) (v : PV) : (putP P t v).length ≤ P.length + 1 := by
  unfold putP
  rw [(insP_perm _ _).length_eq, List.length_cons]
  have := List.length_filter_le (fun p : Int × PV => !(p.1 == t)) P
  omega
theorem putP_ne (P : List (Int × PV)) (t : Int) (v : PV) : putP P t v ≠ [] := fun e => by
  have h := (insP_perm (t, v) (P.filter fun p => !(p.1 == t))).length_eq
  unfold putP at e
  rw [e] at h
  cases h
theorem TabAt.sub {w : World} {S S' : Nat → Prop} {m : Nat} {L : List TE} (h : TabAt w S m L) (hS : S' m ∧ ∀ x ∈ L, S' x.b) : TabAt w S' m L := ⟨h.map, h.inner, h.sizes, h.apart, h.other, hS.1, hS.2⟩
/-- A value put into a key's map. -/
theorem TabL.put {w wr w' : World} {m n q : Nat} {L : List TE} {T : List Tp} {s f : ByteArray} {x : TE} (h : TabL w wr m L T n) (hl : lookT L s f = some x) (t : Int) (v : PV)
    (ho : w'.ownsMap Try.prog 2 valE x.b q ((DataW.map (x.pts.map entP)).put (.int .i64 t) v.d)) (hg : wr.grownBy w' (some x.b)) : TabL w w' m (setT L s f (putP x.pts t v)) (T ++ [⟨(s, f), t, v⟩]) (n + 1) := by
  obtain ⟨hx, _, _⟩ := lookT_mem hl
  rw [putP_ent] at ho
  refine ⟨(h.tab.put hl ho (fun k hk hne => hg.block k hk fun e => hne (Option.some.inj e))).sub ⟨.inl rfl, fun y hy => .inr ⟨y, hy, rfl⟩⟩, h.ofT.put hl t v, by rw [show (setT L s f (putP x.pts t v)).length = L.length by simp [setT]]; exact Nat.le_succ_of_le h.len, fun y hy => ?_, fun k hk => h.new k ((setT_S k).1 hk),
    h.below.grown hg h.below.size fun b hb => by cases hb; exact h.new _ (.inr ⟨x, hx, rfl⟩)⟩
  obtain ⟨z, hz, _, _, _, h4 | h4⟩ := setT_mem hy
  · rw [h4.2]
    have := putP_len x.pts t v
    have := h.plen x hx
    omega
  · rw [h4.2]
    exact Nat.le_succ_of_le (h.plen z hz)
/-- A key more, with a map that is new and holds nothing. -/
theorem TabL.insert {w wr wa w' : World} {m n q : Nat} {L : List TE} {T : List Tp} {s f : ByteArray} (h : TabL w wr m L T n) (hl : lookT L s f = none) (hs : s.size ≤ maxLen) (hf : f.size ≤ maxLen) (hb : Below wr.heap.size wr wa) {b : Nat} (hbn : wr.heap.size ≤ b) (hin : wa.ownsMap Try.prog 2 valE b 0 (.map []))
    (ho : w'.ownsMap Try.prog 47 mapE m q ((DataW.map (L.map entT)).put (kL s f) (.lit (.int .u64 b)))) (hg : wa.grownBy w' (some m)) : TabL w w' m (insT ⟨s, f, b, []⟩ L) T (n + 1) ∧ lookT (insT ⟨s, f, b, []⟩ L) s f = some ⟨s, f, b, []⟩ := by
  rw [putT_none h.tab.sizes hs hf hl b []] at ho
  have hm := h.tab.map.lt
  have hb2 : w'.heap[b]? = wa.heap[b]? := hg.block b hin.lt fun e => by have := Option.some.inj e; omega
  obtain ⟨h1, h2⟩ := h.ofT.insert hl b
  refine ⟨⟨(h.tab.insert hl hs hf hbn (ownsMap_same hin hb2) ho (fun k hk hne => (hg.block k (Nat.lt_of_lt_of_le hk hb.size) fun e => hne (Option.some.inj e)).trans (hb.block k hk)) (S' := fun _ => True) (fun _ _ => trivial) trivial).sub ⟨.inl rfl, fun y hy => .inr ⟨y, hy, rfl⟩⟩, h1, ?_, fun y hy => ?_, fun k hk => ?_,
    (h.below.trans (hb.mono h.below.size)).grown hg (Nat.le_trans h.below.size hb.size) fun k hk => by cases hk; exact h.new _ (.inl rfl)⟩, h2⟩
  · rw [(insT_perm _ _).length_eq, List.length_cons]
    exact Nat.succ_le_succ h.len
  · rcases insT_mem.1 hy with rfl | hy
    · exact Nat.zero_le _
    · exact Nat.le_succ_of_le (h.plen y hy)
  · rcases hk with rfl | ⟨y, hy, rfl⟩
    · exact h.new _ (.inl rfl)
    · rcases insT_mem.1 hy with rfl | hy
      · exact Nat.le_trans h.below.size hbn
      · exact h.new _ (.inr ⟨y, hy, rfl⟩)
/-- No key without a point. -/
def FullT (L : List TE) : Prop := ∀ x ∈ L, x.pts ≠ []
theorem FullT.put {L : List TE} (h : FullT L) (s f : ByteArray) (P : List (Int × PV)) (hP : P ≠ []) : FullT (setT L s f P) := fun y hy => by
  obtain ⟨z, hz, _, _, _, h4 | h4⟩ := setT_mem hy
  · rw [h4.2]; exact hP
  · rw [h4.2]; exact h z hz
theorem FullT.insert {L : List TE} (h : FullT L) (s f : ByteArray) (b : Nat) (P : List (Int × PV)) (hP : P ≠ []) : FullT (setT (insT ⟨s, f, b, []⟩ L) s f P) := fun y hy => by
  obtain ⟨z, hz, _, _, _, h4 | h4⟩ := setT_mem hy
  · rw [h4.2]; exact hP
  · rw [h4.2]
    rcases insT_mem.1 hz with rfl | hz
    · have : isT s f ⟨s, f, b, []⟩ = true := decide_eq_true ⟨rfl, rfl⟩
      rw [this] at h4
      exact absurd h4.1 (by simp)
    · exact h z hz
/-- A block of cells is none of the table's. -/
theorem TabAt.cells {w w' : World} {S : Nat → Prop} {m : Nat} {L : List TE} (h : TabAt w S m L) {k : Nat} {cs : Array Value} {t : TypeId} {fr : Nat × Nat} (hk : w.heap[k]? = some (.cells cs t fr)) : ¬ TabS m L k := by
  rintro (rfl | ⟨x, hx, rfl⟩)
  · obtain ⟨es, cl, h1, _⟩ := h.map
    rw [h1] at hk; cases hk
  · obtain ⟨es, cl, h1, _⟩ := h.inner x hx
    rw [h1] at hk; cases hk
end Go.Proofs.Ytblpjhgbckfaeaa
