/- Heap laws of the prover's own: frames by sets of blocks, an append of elements of several cells from whatever source, a row of one's own that is written. No condition. -/
import Derived.Test.YtobcpafalfdpkaaK
import Derived.WalkKit
import Derived.ProofKit
import Derived.Below
import Derived.Deep.AppendLies
import Derived.Deep.Draws
import Derived.Laws.AppendOwnNone
import Derived.Laws.NewBlocks
import Derived.Maps.AppendAt
import Derived.Lib.Hide
namespace Go.Proofs.Ytobcpafalfdpkaa
open Go.RowKit
/-- The blocks of S apart, nothing of w has turned. -/
structure Turns (S : Nat → Prop) (w w' : World) : Prop where
  os : w'.os = w.os
  tape : w'.tape = w.tape
  output : w'.output = w.output
  size : w.heap.size ≤ w'.heap.size
  block : ∀ k, k < w.heap.size → ¬ S k → w'.heap[k]? = w.heap[k]?
theorem Turns.refl (S : Nat → Prop) (w : World) : Turns S w w := ⟨rfl, rfl, rfl, Nat.le_refl _, fun _ _ _ => rfl⟩
theorem Turns.trans {S S' : Nat → Prop} {a b c : World} (h : Turns S a b) (k : Turns S' b c) (hs : ∀ x, S' x → S x ∨ a.heap.size ≤ x) : Turns S a c :=
  ⟨k.os.trans h.os, k.tape.trans h.tape, k.output.trans h.output, Nat.le_trans h.size k.size, fun i hi hn => (k.block i (Nat.lt_of_lt_of_le hi h.size) (fun e => by
    rcases hs i e with h1 | h1
    · exact hn h1
    · omega)).trans (h.block i hi hn)⟩
theorem Turns.below {S : Nat → Prop} {w w' : World} (h : Turns S w w') {B : Nat} (hB : B ≤ w.heap.size) (hS : ∀ x, S x → B ≤ x) : Below B w w' :=
  ⟨h.os, h.tape, h.output, h.size, fun k hk => h.block k (by omega) (fun e => by have := hS k e; omega)⟩
theorem Turns.of_below {S : Nat → Prop} {w w' : World} (h : Below w.heap.size w w') : Turns S w w' :=
  ⟨h.os, h.tape, h.output, h.size, fun k hk _ => h.block k hk⟩
theorem Turns.of_grown {S : Nat → Prop} {w w' : World} {row : Option Nat} (h : w.grownBy w' row) (hr : ∀ k, row = some k → S k) : Turns S w w' :=
  ⟨h.os, h.tape, h.output, h.size, fun k hk hn => h.block k hk (fun e => hn (hr k e.symm))⟩
theorem Turns.cell {S : Nat → Prop} {w w' : World} (h : Turns S w w') {a : Addr} {v : Value} (hc : w.cell? a = some v) (hn : ¬ S a.block) : w'.cell? a = some v :=
  (World.cell?_of_block (h.block a.block (World.block_lt_of_cell? w a hc) hn)).trans hc
/-- The disk's block alone has turned. -/
def OnlyD (d : Nat) (w w' : World) : Prop := w'.os = w.os ∧ w'.tape = w.tape ∧ w'.output = w.output ∧ w'.heap.size = w.heap.size ∧ ∀ k, k ≠ d → w'.heap[k]? = w.heap[k]?
theorem OnlyD.turns {S : Nat → Prop} {d : Nat} {w w' : World} (h : OnlyD d w w') (hd : S d) : Turns S w w' :=
  ⟨h.1, h.2.1, h.2.2.1, by rw [h.2.2.2.1]; exact Nat.le_refl _, fun k _ hn => h.2.2.2.2 k (fun e => hn (e ▸ hd))⟩
theorem onlyD_set (w : World) (d i : Nat) (u : Value) : OnlyD d w (w.setCell ⟨d, i, none⟩ u) :=
  ⟨rfl, rfl, rfl, by simp [World.setCell], fun k hk => Below.heap_setCell w _ u k hk⟩
/-- S and all that is new. -/
def With (S : Nat → Prop) (w w' : World) : Nat → Prop := fun k => S k ∨ (w.heap.size ≤ k ∧ k < w'.heap.size)
theorem onlyD_refl (d : Nat) (w : World) : OnlyD d w w := ⟨rfl, rfl, rfl, rfl, fun _ _ => rfl⟩
theorem OnlyD.trans {d : Nat} {a b c : World} (h : OnlyD d a b) (k : OnlyD d b c) : OnlyD d a c :=
  ⟨k.1.trans h.1, k.2.1.trans h.2.1, k.2.2.1.trans h.2.2.1, k.2.2.2.1.trans h.2.2.2.1, fun x hx => (k.2.2.2.2 x hx).trans (h.2.2.2.2 x hx)⟩
theorem add_block (ad : Addr) (j : Nat) : (ad.add j).block = ad.block := by unfold Addr.add; split <;> rfl
theorem ownsRow_same {w w' : World} {base n size : Nat} {t : TypeId} {v : Value} {xs : List Value} (h : w.ownsRow base t size v n xs) (hk : ∀ g, v.ownBlock = some g → w'.heap[g]? = w.heap[g]?) : w'.ownsRow base t size v n xs := by
  obtain ⟨h0, h⟩ := h
  refine ⟨h0, ?_⟩
  rcases h with h | ⟨g, cap, cur, rfl, h1, h2, h3⟩
  · exact .inl h
  · exact .inr ⟨g, cap, cur, rfl, h1, (hk g rfl).trans h2, h3⟩
/-- A cell of a row of one's own is written. -/
theorem ownsRow_set {w : World} {base n size g i cap : Nat} {t : TypeId} {u : Value} {xs : List Value} (h : w.ownsRow base t size (.slice (some ⟨g, 0, none⟩) n cap) n xs) : (w.setCell ⟨g, i, none⟩ u).ownsRow base t size (.slice (some ⟨g, 0, none⟩) n cap) n (xs.set i u) := by
  obtain ⟨h0, h⟩ := h
  refine ⟨by rw [List.length_set]; exact h0, ?_⟩
  rcases h with ⟨h1, _⟩ | ⟨g', cap', cur, hv, h1, h2, h3, h4, h5, h6⟩
  · cases h1
  · cases hv
    refine .inr ⟨g, cap, _, rfl, h1, heap_setCell_same w g i cur t u h2, h3, h4, by simpa using h5, ?_⟩
    simp only [Array.toList_setIfInBounds]
    rw [List.take_set, h6]
theorem heap_lt {w : World} {k : Nat} {o : Obj} (hh : w.heap[k]? = some o) : k < w.heap.size := by
  rcases Nat.lt_or_ge k w.heap.size with h | h
  · exact h
  · rw [Array.getElem?_eq_none h] at hh; cases hh
/-- What an append of elements of several cells reads. -/
def SrcN (w : World) (size : Nat) (src : Value) (m : Nat) (news : List Value) : Prop :=
  news.length = m * size ∧ ((src = .slice none 0 0 ∧ m = 0) ∨ ∃ ad c, src = .slice (some ad) m c ∧ (∀ j u, news[j]? = some u → w.cell? (ad.add j) = some u) ∧ ∀ u ∈ news, u.oneCell' = true)
theorem wpList_append_srcN {P : Program} {w : World} {ops : Array Oper} {rest : List Oper} {o : Oper} {a : Act} {Q : Exit → Act → World → Prop} (hgd : o.guard = none) (s x : Operand) (t : TypeId)
    (ho : o.op = .call { callee := .builtin .append, args := #[s, x], argTypes := #[t, t] })
    (base : Nat) (e : TypeId) (i : TypeInfo) (z : Value) (size bytes : Nat) (ht : P.underlying t = some (.slice e)) (hi : P.info? e = some i) (hz : i.zero = some z)
    (hsize : i.size = size) (hby : i.bytes = bytes) (hzs : z.cells.size = size) (hsz : 0 < size)
    (v : Value) (n : Nat) (xs : List Value) (hs : a.eval s = v) (hown : w.ownsRow base e size v n xs)
    (src : Value) (m : Nat) (news : List Value) (hx : a.eval x = src) (hsrc : SrcN w size src m news)
    (h63 : n + m ≤ maxLen) (hbytes : (n + m) * bytes ≤ 140737488355328) (hbase : base ≤ w.heap.size)
    (h : ∀ v' w', w'.ownsRow base e size v' (n + m) (xs ++ news) → w.grownBy w' v.ownBlock → (v'.ownBlock = v.ownBlock ∨ v'.ownBlock = some w.heap.size) → wpList P ops Q rest (a.put o.dst v') w') :
    wpList P ops Q (o :: rest) a w := by
  obtain ⟨hl, ⟨rfl, rfl⟩ | ⟨ad, c, rfl, h1, h2⟩⟩ := hsrc
  · have hn : news = [] := List.eq_nil_of_length_eq_zero (by simpa using hl)
    subst hn
    exact wpList_append_own_none hgd s x t ho base e i size ht hi v n xs hs hown hx (h v w (by simpa using hown) (World.grownBy.refl _ _) (.inl rfl))
  · exact wpList_append_own_at w hgd s x t ho base e i z size bytes ht hi hz hsize hby hzs hsz v n xs hs hown ad m c news hx hl h1 h2 h63 hbytes hbase fun v' w' k1 k2 _ k4 => h v' w' k1 k2 k4
theorem step_append_srcN {P : Program} {w : World} {ops : Array Oper} {o : Oper} {a : Act} {K : Act → World → Prop} {Q : Exit → Act → World → Prop} {E : Prop} (hgd : o.guard = none) (s x : Operand) (t : TypeId)
    (ho : o.op = .call { callee := .builtin .append, args := #[s, x], argTypes := #[t, t] })
    (base : Nat) (e : TypeId) (i : TypeInfo) (z : Value) (size bytes : Nat) (ht : P.underlying t = some (.slice e)) (hi : P.info? e = some i) (hz : i.zero = some z)
    (hsize : i.size = size) (hby : i.bytes = bytes) (hzs : z.cells.size = size) (hsz : 0 < size)
    (v : Value) (n : Nat) (xs : List Value) (hs : a.eval s = v) (hown : w.ownsRow base e size v n xs)
    (src : Value) (m : Nat) (news : List Value) (hx : a.eval x = src) (hsrc : SrcN w size src m news)
    (h63 : n + m ≤ maxLen) (hbytes : (n + m) * bytes ≤ 140737488355328) (hbase : base ≤ w.heap.size)
    (h : ∀ ao cap w', w'.ownsRow base e size (.slice ao (n + m) cap) (n + m) (xs ++ news) → w.grownBy w' v.ownBlock → (∀ b, (Value.slice ao (n + m) cap).ownBlock = some b → v.ownBlock = some b ∨ b = w.heap.size) → K (a.put o.dst (.slice ao (n + m) cap)) w') :
    if Region.wanted o (yielded ops a.tmps) = true then Oper.wp P o a w K Q else E := by
  have hw : Region.wanted o (yielded ops a.tmps) = true := by simp [Region.wanted, hgd]
  rw [if_pos hw]
  obtain ⟨v', w', hr, h2, h3, h4⟩ : ∃ v' w', (Builtin.append_ #[t, t] o.type #[v, src]).run P w = .ok v' w' ∧ w'.ownsRow base e size v' (n + m) (xs ++ news) ∧ w.grownBy w' v.ownBlock ∧ (v'.ownBlock = v.ownBlock ∨ v'.ownBlock = some w.heap.size) := by
    obtain ⟨hl, ⟨rfl, rfl⟩ | ⟨ad, c, rfl, h1, h2⟩⟩ := hsrc
    · have hn : news = [] := List.eq_nil_of_length_eq_zero (by simpa using hl)
      subst hn
      exact ⟨v, w, run_append_owned_none (P := P) w base t o.type e i size ht hi v n xs hown, by simpa using hown, World.grownBy.refl _ _, .inl rfl⟩
    · obtain ⟨v', w', k1, k2, k3, _, k5⟩ := run_append_own_at (P := P) w base t o.type e i z size bytes ht hi hz hsize hby hzs hsz v n xs hown ad m c news hl h1 h2 h63 hbytes hbase
      exact ⟨v', w', k1, k2, k3, k5⟩
  obtain ⟨ao, cap, rfl⟩ : ∃ ao cap, v' = .slice ao (n + m) cap := by
    rcases h2.2 with ⟨rfl, h0⟩ | ⟨g, cap, cur, rfl, _⟩
    · exact ⟨none, 0, by rw [h0]⟩
    · exact ⟨_, cap, rfl⟩
  unfold Oper.wp execOp
  simp only [ho, resolve, invoke, builtin, Sem.run_bind, Sem.run_pure, Result.andThen_ok, List.map_toArray, List.map_cons, List.map_nil, hs, hx, hr]
  refine h ao cap w' h2 h3 fun b hb => ?_
  rcases h4 with h5 | h5
  · exact .inl (h5.symm.trans hb)
  · exact .inr (Option.some.inj (hb.symm.trans h5))
theorem SrcN.of_block {w : World} {B size m : Nat} {cs : Array Value} {t : TypeId} {fr : Nat × Nat} (hb : w.heap[B]? = some (.cells cs t fr)) (hl : cs.size = m * size) (h1 : ∀ u ∈ cs.toList, u.oneCell' = true) (c : Nat) : SrcN w size (.slice (some ⟨B, 0, none⟩) m c) m cs.toList :=
  ⟨by simpa using hl, .inr ⟨_, c, rfl, World.news_of_block hb, h1⟩⟩
/-- Below block number H the world is as it was, and no block has gone. -/
def Far (H : Nat) (a b : World) : Prop := a.heap.size ≤ b.heap.size ∧ ∀ k, k < H → b.heap[k]? = a.heap[k]?
theorem Far.cell {H : Nat} {a b : World} (h : Far H a b) {p : Addr} (hp : p.block < H) : b.cell? p = a.cell? p := World.cell?_of_block (h.2 _ hp)
theorem Far.frozen {H : Nat} {a b : World} (h : Far H a b) {p : Addr} (hp : p.block < H) : b.frozen? p = a.frozen? p := World.frozen?_of_block (h.2 _ hp)
theorem Far.trans {H : Nat} {a b c : World} (h : Far H a b) (k : Far H b c) : Far H a c := ⟨Nat.le_trans h.1 k.1, fun i hi => (k.2 i hi).trans (h.2 i hi)⟩
theorem Far.grown {H : Nat} {a b : World} {row : Option Nat} (hH : H ≤ a.heap.size) (hg : a.grownBy b row) (ho : ∀ k, row = some k → H ≤ k) : Far H a b :=
  ⟨hg.size, fun k hk => hg.block k (by omega) (fun e => by have := ho k e.symm; omega)⟩
theorem Far.alloc {H : Nat} (a : World) (hH : H ≤ a.heap.size) (o : Obj) : Far H a ((a.alloc o).drew) := ⟨by simp, fun k hk => heap_alloc_old a o (by omega)⟩
theorem Far.alloc0 {H : Nat} (a : World) (hH : H ≤ a.heap.size) (o : Obj) : Far H a (a.alloc o) := ⟨by simp, fun k hk => heap_alloc_old a o (by omega)⟩
theorem add_add (ad : Addr) (i j : Nat) : (ad.add i).add j = ad.add (i + j) := by
  unfold Addr.add
  by_cases h0 : i = 0 <;> by_cases h1 : j = 0 <;> simp [h0, h1] <;> omega
theorem SrcN.later {w w' : World} {size m : Nat} {v : Value} {news : List Value} (h : SrcN w size v m news) (hb : Below w.heap.size w w') : SrcN w' size v m news := by
  obtain ⟨h0, h | ⟨ad, c', rfl, h1, h2⟩⟩ := h
  · exact ⟨h0, .inl h⟩
  · refine ⟨h0, .inr ⟨ad, c', rfl, fun j u hj => ?_, h2⟩⟩
    have := h1 j u hj
    rw [hb.cell (World.block_lt_of_cell? w _ this)]
    exact this
theorem below_drewN {B : Nat} {a w : World} (h : Below B a w) (n : Nat) : Below B a (w.drewN n) := ⟨h.os, h.tape, h.output, h.size, h.block⟩
theorem Turns.mono {S S' : Nat → Prop} {w w' : World} (h : Turns S w w') (hs : ∀ x, S x → S' x) : Turns S' w w' := ⟨h.os, h.tape, h.output, h.size, fun k hk hn => h.block k hk fun e => hn (hs k e)⟩
theorem Turns.drew {S : Nat → Prop} {w w' : World} (h : Turns S w w') : Turns S w w'.drew := ⟨h.os, h.tape, h.output, h.size, h.block⟩
theorem OnlyD.sized {d : Nat} {w w' : World} (h : OnlyD d w w') : w'.heap.size = w.heap.size := h.2.2.2.1
end Go.Proofs.Ytobcpafalfdpkaa
