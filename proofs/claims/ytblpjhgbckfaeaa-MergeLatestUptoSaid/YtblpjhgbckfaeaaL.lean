/- What Merge reads, at a place; what one point more leaves; the rounds of its first loops. No condition. -/
import Derived.Test.YtblpjhgbckfaeaaK
namespace Go.Proofs.Ytblpjhgbckfaeaa
open Go.RowKit Go.WideMaps Go.Sort
theorem lists_at {w w' : World} {a : Option Addr} {n c : Nat} {LS : List LL} (h : ListsIn w (.slice a n c) LS) (hb : Below w.heap.size w w') {k : Nat} {x : LL} (hx : LS[k]? = some x) : ColsIn w' x.v x.cs ∧ ∃ b o, a = some ⟨b, o, none⟩ ∧ w'.cell? ⟨b, o + k, none⟩ = some x.v := by
  obtain ⟨a', c', hv, h⟩ := h.later hb
  injection hv with e1 e2 e3
  subst e1
  exact h k x hx
theorem lists_form {w : World} {v : Value} {LS : List LL} (h : ListsIn w v LS) : ∃ a c, v = .slice a LS.length c := by
  obtain ⟨a, c, hv, _⟩ := h; exact ⟨a, c, hv⟩
theorem cols_at {w w' : World} {a : Option Addr} {n c : Nat} {C : List CC} (h : ColsIn w (.slice a n c) C) (hb : Below w.heap.size w w') {k : Nat} {x : CC} (hx : C[k]? = some x) : x.se.size ≤ maxLen ∧ x.fi.size ≤ maxLen ∧ PtsIn w' x.v x.pts ∧ ∃ b o, a = some ⟨b, o, none⟩ ∧ w'.cell? ⟨b, o + k * 3, none⟩ = some (.string x.se) ∧ w'.cell? ⟨b, o + k * 3 + 1, none⟩ = some (.string x.fi) ∧ w'.cell? ⟨b, o + k * 3 + 2, none⟩ = some x.v := by
  obtain ⟨a', c', hv, h⟩ := h.later hb
  injection hv with e1 e2 e3
  subst e1
  exact h k x hx
theorem cols_form {w : World} {v : Value} {C : List CC} (h : ColsIn w v C) : ∃ a c, v = .slice a C.length c := by
  obtain ⟨a, c, hv, _⟩ := h; exact ⟨a, c, hv⟩
theorem pts_at {w w' : World} {a : Option Addr} {n c : Nat} {P : List (Int × PV)} (h : PtsIn w (.slice a n c) P) (hb : Below w.heap.size w w') {k : Nat} {p : Int × PV} (hp : P[k]? = some p) : (Lit.int .i64 p.1).wf = true ∧ ∃ b o, a = some ⟨b, o, none⟩ ∧ w'.cell? ⟨b, o + k * 4, none⟩ = some (.int .i64 p.1) ∧ w'.cell? ⟨b, o + k * 4 + 1, none⟩ = some (.int .i64 p.2.kd) ∧ w'.cell? ⟨b, o + k * 4 + 2, none⟩ = some (.int .u64 p.2.bits) ∧ w'.cell? ⟨b, o + k * 4 + 3, none⟩ = some (.string p.2.text) := by
  obtain ⟨a', c', hv, h⟩ := h.later hb
  injection hv with e1 e2 e3
  subst e1
  exact h k p hp
theorem pts_form {w : World} {v : Value} {P : List (Int × PV)} (h : PtsIn w v P) : ∃ a c, v = .slice a P.length c := by
  obtain ⟨a, c, hv, _⟩ := h; exact ⟨a, c, hv⟩
theorem eql_map (b : Nat) (w : World) : Sem.run Try.prog (binOp BinOp.eql 48 (.map (some b)) (.map none)) w = .ok (.bool false) w := by kernel_rfl
theorem eql_nil (w : World) : Sem.run Try.prog (binOp BinOp.eql 48 (.map none) (.map none)) w = .ok (.bool true) w := by kernel_rfl
theorem TabL.more {w wr : World} {m n n' : Nat} {L : List TE} {T : List Tp} (h : TabL w wr m L T n) (hn : n ≤ n') : TabL w wr m L T n' :=
  ⟨h.tab, h.ofT, Nat.le_trans h.len hn, fun x hx => Nat.le_trans (h.plen x hx) hn, h.new, h.below⟩
theorem TabL.start (w : World) : TabL w (w.alloc (.map #[] 0)) w.heap.size [] [] 0 where
  tab := ⟨World.ownsMap_made w Try.prog 47 mapE, (fun _ h => nomatch h), (fun _ h => nomatch h), List.Pairwise.nil, (fun _ h => nomatch h), .inl rfl, (fun _ h => nomatch h)⟩
  ofT := tabOf_nil
  len := Nat.le_refl _
  plen := fun _ h => nomatch h
  new := by
    rintro k (rfl | ⟨x, hx, _⟩)
    · exact Nat.le_refl _
    · exact nomatch hx
  below := (Below.refl _ w).alloc (Nat.le_refl _) _
/-- The table holds T. -/
def Fill (w : World) (m : Nat) (T : List Tp) (wr : World) : Prop := ∃ L, TabL w wr m L T (2 * T.length) ∧ FullT L
theorem Fill.later {w wr w' : World} {m : Nat} {T : List Tp} (h : Fill w m T wr) (hb : Below wr.heap.size wr w') : Fill w m T w' := by
  obtain ⟨L, h1, h2⟩ := h
  exact ⟨L, h1.later hb, h2⟩
theorem Fill.below {w wr : World} {m : Nat} {T : List Tp} (h : Fill w m T wr) : Below w.heap.size w wr := by
  obtain ⟨L, h1, _⟩ := h
  exact h1.below
def PV.vs (x : PV) : Value := .agg #[.int .i64 x.kd, .int .u64 x.bits, .string x.text]
/-- The run of one store into a key's map. -/
theorem put_run {w wr : World} {m n : Nat} {L : List TE} {T : List Tp} (h : TabL w wr m L T n) {s f : ByteArray} {x : TE} (hl : lookT L s f = some x) (hn : n < maxLen) (t : Int) (ht : (Lit.int .i64 t).wf = true) (v : PV) :
    ∃ w6, (Instr.mapUpdate 48 (.map (some x.b)) (.int .i64 t) (.agg #[.int .i64 v.kd, .int .u64 v.bits, .string v.text])).run Try.prog wr = .ok () w6 ∧ TabL w w6 m (setT L s f (putP x.pts t v)) (T ++ [⟨(s, f), t, v⟩]) (n + 1) ∧ wr.grownBy w6 (some x.b) := by
  obtain ⟨hx, _, _⟩ := lookT_mem hl
  have hp := h.plen x hx
  obtain ⟨w6, hrun, hown, ht6⟩ := (h.tab.inner x hx).store (Maps.int_keyed Try.underlying2) Try.underlying48 (by omega) (Maps.keyOf_int_mk Try.underlying2 ht) (valE_of v)
  exact ⟨w6, hrun, h.put hl t v hown ht6.grown, ht6.grown⟩
/-- The run of a store of a new map for a key. -/
theorem ins_run {w wr : World} {m n : Nat} {L : List TE} {T : List Tp} (h : TabL w wr m L T n) {s f : ByteArray} (hl : lookT L s f = none) (hs : s.size ≤ maxLen) (hf : f.size ≤ maxLen) (hn : n < maxLen) :
    ∃ w6, (Instr.mapUpdate 45 (.map (some m)) (.agg #[.string s, .string f]) (.map (some wr.heap.size))).run Try.prog (wr.alloc (.map #[] 0)) = .ok () w6 ∧ TabL w w6 m (insT ⟨s, f, wr.heap.size, []⟩ L) T (n + 1) ∧ lookT (insT ⟨s, f, wr.heap.size, []⟩ L) s f = some ⟨s, f, wr.heap.size, []⟩ ∧ (wr.alloc (.map #[] 0)).grownBy w6 (some m) := by
  have hlen := h.len
  obtain ⟨w6, hrun, hown, ht6⟩ := (h.tab.map.alloc (.map #[] 0)).store keyed47 Try.underlying45 (by omega) (key47 s f hs hf) (show mapE (.map (some wr.heap.size)) = some (.lit (.int .u64 wr.heap.size), []) from rfl)
  have hb := (Below.refl wr.heap.size wr).alloc (Nat.le_refl _) (.map #[] 0)
  obtain ⟨h1, h2⟩ := h.insert hl hs hf hb (Nat.le_refl _) (World.ownsMap_made wr Try.prog 2 valE) hown ht6.grown
  exact ⟨w6, hrun, h1, h2, ht6.grown⟩
/-- A block of cells stays when the table turns. -/
theorem cells_stay {wr w6 : World} {S : Nat → Prop} {m k b : Nat} {L : List TE} {cs : Array Value} {t : TypeId} {fr : Nat × Nat} (h : TabAt wr S m L) (hk : wr.heap[k]? = some (.cells cs t fr)) (hb : b = m ∨ ∃ x ∈ L, x.b = b) (hg : wr.grownBy w6 (some b)) : w6.heap[k]? = some (.cells cs t fr) := by
  refine (hg.block k (heap_lt hk) fun e => ?_).trans hk
  cases e
  exact h.cells (w' := wr) hk hb
def In1 (w : World) (m : Nat) (LS : List LL) (n : Nat) (i : Value) (wr : World) : Prop := ∃ k : Nat, k ≤ n ∧ i = .int .i64 k ∧ Fill w m (trL (LS.take k)) wr
def In2 (w : World) (m : Nat) (T0 : List Tp) (C : List CC) (n : Nat) (i : Value) (wr : World) : Prop := ∃ j : Nat, j ≤ n ∧ i = .int .i64 j ∧ Fill w m (T0 ++ trC (C.take j)) wr
def In3 (w : World) (m : Nat) (T0 : List Tp) (x : CC) (n cb kb : Nat) (i : Value) (wr : World) : Prop :=
  ∃ j : Nat, j ≤ n ∧ i = .int .i64 j ∧ Fill w m (T0 ++ trP x.se x.fi (x.pts.take j)) wr ∧ wr.heap[cb]? = some (.cells #[.string x.se, .string x.fi, x.v] 28 (0, 0)) ∧ wr.heap[kb]? = some (.cells #[.string x.se, .string x.fi] 47 (0, 0))
end Go.Proofs.Ytblpjhgbckfaeaa
