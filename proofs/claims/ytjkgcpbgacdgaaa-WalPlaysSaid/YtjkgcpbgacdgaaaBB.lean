/- What an append of elements of whatever size reads; a number's frame; a copy of bytes. No condition but the bounds. -/
import Derived.Test.YtjkgcpbgacdgaaaBA
import Derived.Lib.LazyBuf
namespace Go.Proofs.Ytjkgcpbgacdgaaa
open Go.RowKit
/-- What an append of elements of several cells reads. -/
def SrcN (w : World) (size : Nat) (src : Value) (m : Nat) (news : List Value) : Prop :=
  news.length = m * size ∧ ((src = .slice none 0 0 ∧ m = 0) ∨ ∃ ad c, src = .slice (some ad) m c ∧ (∀ j u, news[j]? = some u → w.cell? (ad.add j) = some u) ∧ ∀ u ∈ news, u.oneCell' = true)
theorem wpList_append_srcN {P : Program} {w : World} {ops : Array Oper} {rest : List Oper} {o : Oper} {a : Act} {Q : Exit → Act → World → Prop} (hgd : o.guard = none) (s x : Operand) (t : TypeId)
    (ho : o.op = .call { callee := .builtin .append, args := #[s, x], argTypes := #[t, t] })
    (base : Nat) (e : TypeId) (i : TypeInfo) (z : Value) (size bytes : Nat) (ht : P.underlying t = some (.slice e)) (hi : P.info? e = some i) (hz : i.zero = some z)
    (hsize : i.size = size) (hby : i.bytes = bytes) (hzs : z.cells.size = size) (hsz : 0 < size)
    (v : Value) (n : Nat) (xs : List Value) (hs : a.eval s = v) (hown : w.ownsRow base e size v n xs)
    (src : Value) (m : Nat) (news : List Value) (hx : a.eval x = src) (hsrc : SrcN w size src m news)
    (h63 : n + m ≤ maxLen) (hbytes : (n + m) * bytes ≤ 140737488355328) (hbase : base ≤ w.heap.size)
    (h : ∀ v' w', w'.ownsRow base e size v' (n + m) (xs ++ news) → w.grownBy w' v.ownBlock → (v'.ownBlock = v.ownBlock ∨ v'.ownBlock = some w.heap.size) → wpList P ops Q rest (a.put o.dst v') w') :
    wpList P ops Q (o :: rest) a w := by
  obtain ⟨hl, ⟨rfl, rfl⟩ | ⟨ad, c, rfl, h1, h2⟩⟩ := hsrc
  · have hn : news = [] := List.eq_nil_of_length_eq_zero (by simpa using hl)
    subst hn
    exact wpList_append_own_none hgd s x t ho base e i size ht hi v n xs hs hown hx (h v w (by simpa using hown) (World.grownBy.refl _ _) (.inl rfl))
  · exact wpList_append_own_at w hgd s x t ho base e i z size bytes ht hi hz hsize hby hzs hsz v n xs hs hown ad m c news hx hl h1 h2 h63 hbytes hbase fun v' w' k1 k2 _ k4 => h v' w' k1 k2 k4
theorem step_append_srcN {P : Program} {w : World} {ops : Array Oper} {o : Oper} {a : Act} {K : Act → World → Prop} {Q : Exit → Act → World → Prop} {E : Prop} (hgd : o.guard = none) (s x : Operand) (t : TypeId)
    (ho : o.op = .call { callee := .builtin .append, args := #[s, x], argTypes := #[t, t] })
    (base : Nat) (e : TypeId) (i : TypeInfo) (z : Value) (size bytes : Nat) (ht : P.underlying t = some (.slice e)) (hi : P.info? e = some i) (hz : i.zero = some z)
    (hsize : i.size = size) (hby : i.bytes = bytes) (hzs : z.cells.size = size) (hsz : 0 < size)
    (v : Value) (n : Nat) (xs : List Value) (hs : a.eval s = v) (hown : w.ownsRow base e size v n xs)
    (src : Value) (m : Nat) (news : List Value) (hx : a.eval x = src) (hsrc : SrcN w size src m news)
    (h63 : n + m ≤ maxLen) (hbytes : (n + m) * bytes ≤ 140737488355328) (hbase : base ≤ w.heap.size)
    (h : ∀ ao cap w', w'.ownsRow base e size (.slice ao (n + m) cap) (n + m) (xs ++ news) → w.grownBy w' v.ownBlock → (∀ b, (Value.slice ao (n + m) cap).ownBlock = some b → v.ownBlock = some b ∨ b = w.heap.size) → K (a.put o.dst (.slice ao (n + m) cap)) w') :
    if Region.wanted o (yielded ops a.tmps) = true then Oper.wp P o a w K Q else E := by
  have hw : Region.wanted o (yielded ops a.tmps) = true := by simp [Region.wanted, hgd]
  rw [if_pos hw]
  obtain ⟨v', w', hr, h2, h3, h4⟩ : ∃ v' w', (Builtin.append_ #[t, t] o.type #[v, src]).run P w = .ok v' w' ∧ w'.ownsRow base e size v' (n + m) (xs ++ news) ∧ w.grownBy w' v.ownBlock ∧ (v'.ownBlock = v.ownBlock ∨ v'.ownBlock = some w.heap.size) := by
    obtain ⟨hl, ⟨rfl, rfl⟩ | ⟨ad, c, rfl, h1, h2⟩⟩ := hsrc
    · have hn : news = [] := List.eq_nil_of_length_eq_zero (by simpa using hl)
      subst hn
      exact ⟨v, w, run_append_owned_none (P := P) w base t o.type e i size ht hi v n xs hown, by simpa using hown, World.grownBy.refl _ _, .inl rfl⟩
    · obtain ⟨v', w', k1, k2, k3, _, k5⟩ := run_append_own_at (P := P) w base t o.type e i z size bytes ht hi hz hsize hby hzs hsz v n xs hown ad m c news hl h1 h2 h63 hbytes hbase
      exact ⟨v', w', k1, k2, k3, k5⟩
  obtain ⟨ao, cap, rfl⟩ : ∃ ao cap, v' = .slice ao (n + m) cap := by
    rcases h2.2 with ⟨rfl, h0⟩ | ⟨g, cap, cur, rfl, _⟩
    · exact ⟨none, 0, by rw [h0]⟩
    · exact ⟨_, cap, rfl⟩
  unfold Oper.wp execOp
  simp only [ho, resolve, invoke, builtin, Sem.run_bind, Sem.run_pure, Result.andThen_ok, List.map_toArray, List.map_cons, List.map_nil, hs, hx, hr]
  refine h ao cap w' h2 h3 fun b hb => ?_
  rcases h4 with h5 | h5
  · exact .inl (h5.symm.trans hb)
  · exact .inr (Option.some.inj (hb.symm.trans h5))
theorem SrcN.of_block {w : World} {B size m : Nat} {cs : Array Value} {t : TypeId} {fr : Nat × Nat} (hb : w.heap[B]? = some (.cells cs t fr)) (hl : cs.size = m * size) (h1 : ∀ u ∈ cs.toList, u.oneCell' = true) (c : Nat) : SrcN w size (.slice (some ⟨B, 0, none⟩) m c) m cs.toList :=
  ⟨by simpa using hl, .inr ⟨_, c, rfl, World.news_of_block hb, h1⟩⟩
theorem SrcN.later {w w' : World} {size m : Nat} {v : Value} {news : List Value} (h : SrcN w size v m news) (hb : Below w.heap.size w w') : SrcN w' size v m news := by
  obtain ⟨h0, h | ⟨ad, c', rfl, h1, h2⟩⟩ := h
  · exact ⟨h0, .inl h⟩
  · refine ⟨h0, .inr ⟨ad, c', rfl, fun j u hj => ?_, h2⟩⟩
    have := h1 j u hj
    rw [hb.cell (World.block_lt_of_cell? w _ this)]
    exact this
theorem row_same {w w' : World} {base n size : Nat} {e : TypeId} {v : Value} {xs : List Value} (h : w.ownsRow base e size v n xs) (hk : ∀ g, v.ownBlock = some g → w'.heap[g]? = w.heap[g]?) : w'.ownsRow base e size v n xs := by
  obtain ⟨h0, h⟩ := h
  refine ⟨h0, ?_⟩
  rcases h with h | ⟨g, c, cur, h1, h2, h3, h4⟩
  · exact .inl h
  · subst h1
    exact .inr ⟨g, c, cur, rfl, h2, (hk g rfl).trans h3, h4⟩
theorem row_later {w w' : World} {base n size : Nat} {e : TypeId} {v : Value} {xs : List Value} (h : w.ownsRow base e size v n xs) (hb : Below w.heap.size w w') : w'.ownsRow base e size v n xs :=
  row_same h fun g hg => hb.block g (h.lt g hg).2
theorem row_low {w : World} {b b' n size : Nat} {t : TypeId} {v : Value} {xs : List Value} (h : w.ownsRow b t size v n xs) (hb : b' ≤ b) : w.ownsRow b' t size v n xs := by
  refine ⟨h.1, ?_⟩
  rcases h.2 with hh | ⟨g', c, cur, hh, h1, hrest⟩
  · exact .inl hh
  · exact .inr ⟨g', c, cur, hh, Nat.le_trans hb h1, hrest⟩
theorem row_form {w : World} {base n size : Nat} {t : TypeId} {v : Value} {xs : List Value} (h : w.ownsRow base t size v n xs) : ∃ a c, v = .slice a n c := by
  rcases h.2 with ⟨h1, h2⟩ | ⟨g, c, cur, h1, _⟩
  · exact ⟨none, 0, by rw [h1, h2]⟩
  · exact ⟨_, c, h1⟩
/-- A row is what an append reads. -/
theorem row_srcN {w : World} {base n size : Nat} {t : TypeId} {v : Value} {xs : List Value} (h : w.ownsRow base t size v n xs) (h1 : ∀ u ∈ xs, u.oneCell' = true) : SrcN w size v n xs := by
  refine ⟨h.1, ?_⟩
  rcases h.2 with h2 | ⟨g, c, cur, rfl, _, hg, hrest⟩
  · exact .inl h2
  · refine .inr ⟨_, c, rfl, fun j u hj => ?_, h1⟩
    have hjl : j < n * size := by rw [← h.1]; exact (List.getElem?_eq_some_iff.1 hj).1
    have := h.cellAt j hjl
    have h9 : (⟨g, 0, none⟩ : Addr).add j = ⟨g, j, none⟩ := by
      unfold Addr.add
      by_cases h0 : j = 0 <;> simp [h0]
    rw [h9, this]; exact hj
theorem SrcN.form {w : World} {size m : Nat} {v : Value} {news : List Value} (h : SrcN w size v m news) : ∃ a c, v = .slice a m c := by
  rcases h.2 with ⟨rfl, rfl⟩ | ⟨ad, c, rfl, _⟩
  · exact ⟨none, 0, rfl⟩
  · exact ⟨_, c, rfl⟩
theorem numL_one {n : Int} {size : Nat} : ∀ u ∈ numL n size, u.oneCell' = true := fun u hu => by
  obtain ⟨j, _, rfl⟩ := List.mem_map.1 hu
  rfl

set_option maxRecDepth 100000 in
theorem frame (w : World) (v : Value) (xs : List Value) (hs : SrcN w 1 v xs.length xs) (hn : xs.length ≤ 1000000000000) :
    Calls Try.prog 45 #[v] w fun e w' => ∃ v', e = .returned v' ∧ w'.ownsRow w.heap.size 5 1 v' (4 + xs.length) (numL xs.length 4 ++ xs) ∧ Below w.heap.size w w' := by
  obtain ⟨i0, hi, hz0, hz1, hz2⟩ := zpartsB
  have HI := Lib.hid hi
  have HZ0 := Lib.hid hz0
  have HZ1 := Lib.hid hz1
  have HZ2 := Lib.hid hz2
  obtain ⟨a, c, rfl⟩ := hs.form
  have HS := Lib.hid hs
  clear hi hz0 hz1 hz2 hs
  go_enter Try.func45, Try.ntmps45
  go_wp2_with fail
  refine (number xs.length 4 (by decide) w).mono ?_
  rintro e w1 ⟨v1, rfl, hr1, hb1⟩
  have HR1 := Lib.hid hr1
  have HB1 := Lib.hid hb1
  clear hr1 hb1
  go_wp2_with (at_builtin; go_must (refine wpList_append_srcN rfl _ _ 23 rfl w.heap.size 5 i0 (.int .u8 0) 1 1 Try.underlying23 HI.out HZ0.out HZ1.out HZ2.out rfl (by omega) _ 4 _ rfl HR1.out _ xs.length xs rfl (HS.out.later HB1.out) (by unfold maxLen; omega) (by omega) HB1.out.size ?_); intro v2 w2 hr2 hg2 hat2; have HR2 := Lib.hid hr2; have HG2 := Lib.hid hg2; clear hr2 hg2 hat2)
  go_ret
  exact ⟨_, rfl, HR2.out, HB1.out.grown HG2.out HB1.out.size (fun b hb => (HR1.out.lt b hb).1)⟩

theorem eql_nil5 (w : World) (a : Option Addr) (n c : Nat) : (binOp .eql 23 (.slice a n c) (.slice none 0 0)).run Try.prog w = .ok (.bool a.isNone) w := run_eql_slice_nil w 23 5 a n c Try.underlying23
set_option maxRecDepth 100000 in
theorem cloneB (w : World) (v : Value) (xs : List Value) (hs : SrcN w 1 v xs.length xs) (hn : xs.length ≤ 1000000000000) :
    Calls Try.prog 46 #[v] w fun e w' => ∃ v', e = .returned v' ∧ w'.ownsRow w.heap.size 5 1 v' xs.length xs ∧ Below w.heap.size w w' := by
  obtain ⟨i0, hi, hz0, hz1, hz2⟩ := zpartsB
  have HI := Lib.hid hi
  have HZ0 := Lib.hid hz0
  have HZ1 := Lib.hid hz1
  have HZ2 := Lib.hid hz2
  have HS := Lib.hid hs
  clear hi hz0 hz1 hz2
  rcases hs with ⟨hl, ⟨rfl, h0⟩ | ⟨ad, c, rfl, h1, h2⟩⟩
  · have HX := Lib.hid (show xs = [] from List.eq_nil_of_length_eq_zero h0)
    clear h0 hl
    have he := fun w => eql_nil5 w none 0 0
    go_enter Try.func46, Try.ntmps46
    go_wp2_with fail
    go_ret
    refine ⟨_, rfl, ?_, Below.refl _ _⟩
    rw [HX.out]
    exact World.ownsRow_nil _ _ _ _
  · clear h1 h2 hl
    have hrow : (w.alloc (.cells #[] 5)).ownsRow w.heap.size 5 1 (.slice (some ⟨w.heap.size, 0, none⟩) 0 0) 0 [] := ⟨rfl, .inr ⟨_, 0, #[], rfl, Nat.le_refl _, heap_alloc_new w _, Nat.le_refl _, Nat.zero_le _, rfl, rfl⟩⟩
    have HROW := Lib.hid hrow
    have HB := Lib.hid ((Below.refl w.heap.size w).alloc (Nat.le_refl _) (.cells #[] 5))
    clear hrow
    have he := fun w => eql_nil5 w (some ad) xs.length c
    go_enter Try.func46, Try.ntmps46
    go_wp2_with (at_builtin; go_must (refine wpList_append_srcN rfl _ _ 23 rfl w.heap.size 5 i0 (.int .u8 0) 1 1 Try.underlying23 HI.out HZ0.out HZ1.out HZ2.out rfl (by omega) _ 0 _ rfl HROW.out _ xs.length xs rfl (HS.out.later HB.out) (by unfold maxLen; omega) (by omega) HB.out.size ?_); intro v2 w2 hr2 hg2 hat2; have HR2 := Lib.hid hr2; have HG2 := Lib.hid hg2; clear hr2 hg2 hat2)
    go_ret
    refine ⟨_, rfl, ?_, HB.out.grown HG2.out HB.out.size (fun b hb => (HROW.out.lt b hb).1)⟩
    have h9 := HR2.out
    rw [Nat.zero_add] at h9
    exact h9
end Go.Proofs.Ytjkgcpbgacdgaaa
