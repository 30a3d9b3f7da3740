/- Points are taken out of a row: slices.Delete. Condition: the places lie in the row. -/
import Derived.Test.YtfhdaihladgchaaQ
import Derived.Deep.RegionLaw
import Derived.Lib.SliceRun
namespace Go.Proofs.Ytfhdaihladgchaa
open Go.RowKit Go.Deep Go.WideShapes Go.ChangeShapes
theorem splice_cons (L : List Value) (o : Nat) (v : Value) (vs : List Value) (h : o + (vs.length + 1) ≤ L.length) : splice (L.set o v) (o + 1) vs = splice L o (v :: vs) := by
  unfold splice
  have h1 : (L.set o v).take (o + 1) = L.take o ++ [v] := by
    apply List.ext_getElem?
    intro i
    rcases Nat.lt_trichotomy i o with hi | rfl | hi
    · rw [List.getElem?_take_of_lt (by omega), List.getElem?_set_ne (by omega), List.getElem?_append_left (by rw [List.length_take]; omega), List.getElem?_take_of_lt hi]
    · rw [List.getElem?_take_of_lt (by omega), List.getElem?_set_self (by omega), List.getElem?_append_right (by rw [List.length_take]; omega), List.length_take]
      simp [Nat.min_eq_left (show i ≤ L.length by omega)]
    · rw [List.getElem?_take_eq_none (by omega), List.getElem?_eq_none (by rw [List.length_append, List.length_take]; simp; omega)]
  have h2 : (L.set o v).drop (o + 1 + vs.length) = L.drop (o + (v :: vs).length) := by
    rw [List.drop_set_of_lt (by omega)]
    congr 1
    simp; omega
  rw [h1, h2]; simp
theorem setCells_heap (g : Nat) (t : TypeId) : ∀ (vs : List Value) (o : Nat) (w : World) (cur : Array Value), w.heap[g]? = some (.cells cur t (0, 0)) → o + vs.length ≤ cur.size →
    (w.setCells g o vs).heap[g]? = some (.cells (splice cur.toList o vs).toArray t (0, 0)) ∧ OnlyD g w (w.setCells g o vs)
  | [], o, w, cur, h, _ => ⟨by rw [World.setCells, h]; simp [splice], onlyD_refl _ _⟩
  | v :: vs, o, w, cur, h, hf => by
    have h1 := heap_setCell_same w g o cur t v h
    have h2 : o + 1 + vs.length ≤ (cur.setIfInBounds o v).size := by simp at hf ⊢; omega
    obtain ⟨h3, h4⟩ := setCells_heap g t vs (o + 1) _ _ h1 h2
    refine ⟨?_, (onlyD_set w g o v).trans h4⟩
    rw [World.setCells, h3, Array.toList_setIfInBounds, splice_cons _ _ _ _ (by simpa using hf)]
theorem splice_len (L : List Value) (d : Nat) (B : List Value) (h : d + B.length ≤ L.length) : (splice L d B).length = L.length := by
  unfold splice; simp; omega
theorem splice_take (L : List Value) (d : Nat) (B : List Value) (h : d ≤ L.length) : (splice L d B).take d = L.take d := by
  unfold splice
  rw [List.take_append_of_le_length (by rw [List.length_take]; omega), List.take_take, Nat.min_self]
theorem splice_take' (L : List Value) (d : Nat) (B : List Value) (h : d ≤ L.length) : (splice L d B).take (d + B.length) = L.take d ++ B := by
  unfold splice
  have h1 : (L.take d ++ B).length = d + B.length := by rw [List.length_append, List.length_take]; omega
  rw [← List.append_assoc, ← h1, List.take_left]
theorem zero33 (w : World) : (zeroValue 33).run Try.prog w = .ok (.agg #[.int .i64 0, .int .i64 0, .int .u64 0, .string ⟨#[]⟩]) w := by kernel_rfl
theorem run_clear (w : World) (b o n c : Nat) (hn : 0 < n) (hc : ∀ j, j < n * 4 → (w.cell? ⟨b, o + j, none⟩).isSome = true ∧ w.frozen? ⟨b, o + j, none⟩ = false) :
    ∃ cs : List Value, cs.length = n * 4 ∧ ∀ ty, (Builtin.clear_ #[23] ty #[.slice (some ⟨b, o, none⟩) n c]).run Try.prog w = .ok (.tuple #[]) (w.setCells b o cs) := by
  obtain ⟨z, hz⟩ : ∃ z : Value, z = .agg #[.int .i64 0, .int .i64 0, .int .u64 0, .string ⟨#[]⟩] := ⟨_, rfl⟩
  have hv : ∀ w, (zeroValue 33).run Try.prog w = .ok z w := fun w => by rw [hz]; exact zero33 w
  have hzc : z.cells = #[.int .i64 0, .int .i64 0, .int .u64 0, .string ⟨#[]⟩] := by rw [hz]; rfl
  have hlen : (Builtin.zeroCells z.cells n).toList.length = n * 4 := by rw [hzc]; simp [Builtin.zeroCells]
  have hone : ∀ v ∈ (Builtin.zeroCells z.cells n).toList, v.oneCell' = true := by
    intro v hv
    rw [hzc] at hv
    simp only [Builtin.zeroCells, Array.toList_map, List.mem_map] at hv
    obtain ⟨i, _, rfl⟩ := hv
    have h4 : i % 4 < 4 := Nat.mod_lt _ (by omega)
    show (#[Value.int .i64 0, Value.int .i64 0, Value.int .u64 0, Value.string ⟨#[]⟩][i % 4]!).oneCell' = true
    generalize i % 4 = k at h4
    match k, h4 with
    | 0, _ => rfl
    | 1, _ => rfl
    | 2, _ => rfl
    | 3, _ => rfl
  have hst := run_storeCells_cells (P := Try.prog) b o (Builtin.zeroCells z.cells n).toList 0 w (by rw [hlen]; simpa using fun j hj => (hc j hj).1) (by rw [hlen]; simpa using fun j hj => (hc j hj).2) hone
  simp only [Nat.add_zero] at hst
  refine ⟨_, hlen, fun ty => ?_⟩
  obtain ⟨m, rfl⟩ : ∃ m, n = m + 1 := ⟨n - 1, by omega⟩
  simp [Builtin.clear_, run_underlying Try.underlying23, hv, hst]
theorem slice_mid (a : Option Addr) (n c i j : Nat) (hi : i ≤ j) (hj : j ≤ n) (hn : n ≤ c) (w' : World) : (Instr.slice 23 (.slice a n c) (some (.int .i64 (i : Int))) (some (.int .i64 (j : Int))) (some (.int .i64 (n : Int)))).run Try.prog w' = .ok (.slice (if n = i then a else a.map (·.add (i * 4))) (j - i) (n - i)) w' := by
  have hso : (Try.prog.info? 33).map (·.size) = some 4 := by kernel_rfl
  simp [Instr.slice, Instr.sliceBounds, Instr.sliceBound, asIntOf, go_sem, hi, hj, hn]
theorem slice_fromI (a : Option Addr) (n c i : Nat) (hi : i ≤ n) (w' : World) : (Instr.slice 23 (.slice a n c) (some (.int .i64 (i : Int))) none none).run Try.prog w' = .ok (.slice (if c = i then a else a.map (·.add (i * 4))) (n - i) (c - i)) w' := by
  have hso : (Try.prog.info? 33).map (·.size) = some 4 := by kernel_rfl
  simp [Instr.slice, Instr.sliceBounds, Instr.sliceBound, asIntOf, go_sem, hi]
theorem spare_of {w : World} {g : Nat} {cur : Array Value} {t : TypeId} (hg : w.heap[g]? = some (.cells cur t (0, 0))) (o n : Nat) (hf : o + n ≤ cur.size) : ∀ j, j < n → (w.cell? ⟨g, o + j, none⟩).isSome = true ∧ w.frozen? ⟨g, o + j, none⟩ = false := fun j hj => by
  refine ⟨?_, ?_⟩
  · simp only [World.cell?, hg]
    rw [Array.getElem?_eq_getElem (by omega)]
    rfl
  · simp [World.frozen?, hg]
/-- An append that finds room in a row of one's own. -/
theorem step_append_in {ops : Array Oper} {o : Oper} {a : Act} {w : World} {K : Act → World → Prop} {Q : Exit → Act → World → Prop} {E : Prop}
    (hgd : o.guard = none) (s x : Operand) (hop : o.op = Op.call { callee := Callee.builtin Builtin.append, args := #[s, x], argTypes := #[23, 23] })
    (i : TypeInfo) (h2 : Try.prog.info? 33 = some i) (h4 : i.size = 4)
    (g n cap : Nat) (hs : a.eval s = .slice (some ⟨g, 0, none⟩) n cap)
    (ad : Addr) (m c : Nat) (news : List Value) (hx : a.eval x = .slice (some ad) m c) (hn : news.length = m * 4) (hc : ∀ j u, news[j]? = some u → w.cell? (ad.add j) = some u) (h1c : ∀ u ∈ news, u.oneCell' = true)
    (k : Nat) (hk : n + m = k) (hroom : k ≤ cap) (cur : Array Value) (hg : w.heap[g]? = some (.cells cur 33 (0, 0))) (hfit : n * 4 + m * 4 ≤ cur.size)
    (h : ∀ w', Hid (w'.heap[g]? = some (.cells (splice cur.toList (n * 4) news).toArray 33 (0, 0))) → OnlyD g w w' → K (a.put o.dst (.slice (some ⟨g, 0, none⟩) k cap)) w') :
    if Region.wanted o (yielded ops a.tmps) = true then Oper.wp Try.prog o a w K Q else E := by
  subst hk
  have hst := setCells_heap g 33 news (0 + n * 4) w cur hg (by rw [hn]; omega)
  refine step_append_room hgd s x 23 hop 33 i 4 Try.underlying23 h2 h4 g 0 n cap hs ad m c news hx hn hc h1c hroom (by rw [hn]; exact spare_of hg _ _ (by omega)) (h _ (Lib.hid ?_) hst.2)
  have := hst.1
  rw [Nat.zero_add] at this ⊢
  exact this
def DelPost (w : World) (base : Nat) (v : Value) (l : List Pt) (a b : Nat) (e : Ending) (w' : World) : Prop :=
  ∃ v', e = .returned v' ∧ w'.ownsRow base 33 4 v' (l.take a ++ l.drop b).length (ptC (l.take a ++ l.drop b)) ∧ v'.ownBlock = v.ownBlock ∧ Turns (fun k => v.ownBlock = some k) w w'
set_option maxRecDepth 100000 in
theorem delete_same (w : World) (base : Nat) (v : Value) (l : List Pt) (a : Nat) (hs : w.ownsRow base 33 4 v l.length (ptC l)) (ha : a ≤ l.length) (hn : l.length ≤ 1000000000000) :
    Calls Try.prog 36 #[v, .int .i64 a, .int .i64 a] w (DelPost w base v l a a) := by
  obtain ⟨n, hN⟩ : ∃ n, l.length = n := ⟨_, rfl⟩
  rw [hN] at hs ha hn
  obtain ⟨va, c, rfl⟩ := row_form hs
  have hnc : n ≤ c := by
    rcases hs.2 with ⟨h1, h2⟩ | ⟨g, c', cur, h1, _, h2, h3, _⟩
    · omega
    · cases h1; omega
  have h1 := slice_mid va n c a a (Nat.le_refl _) ha hnc
  obtain ⟨x, hx⟩ : ∃ x, (Value.slice (if n = a then va else va.map (·.add (a * 4))) (a - a) (n - a)) = x := ⟨_, rfl⟩
  rw [hx] at h1
  have HS := Lib.hid hs
  have HN := Lib.hid hN
  clear hs hN hx
  go_enter Try.func36, Try.ntmps36
  go_wp2_with fail
  go_ret
  refine ⟨_, rfl, ?_, rfl, Turns.refl _ _⟩
  rw [List.take_append_drop, HN.out]
  exact HS.out
set_option maxRecDepth 100000 in
theorem delete_some (w : World) (base : Nat) (v : Value) (l : List Pt) (a b : Nat) (hs : w.ownsRow base 33 4 v l.length (ptC l)) (hab : a < b) (hb : b ≤ l.length) (hn : l.length ≤ 1000000000000) :
    Calls Try.prog 36 #[v, .int .i64 a, .int .i64 b] w (DelPost w base v l a b) := by
  obtain ⟨n, hN⟩ : ∃ n, l.length = n := ⟨_, rfl⟩
  rw [hN] at hs hb hn
  obtain ⟨i0, z0', hi, hz0, hz1, hz2, hz3⟩ := zparts33
  have HI := Lib.hid hi
  have HI1 := Lib.hid hz1
  rcases hs.2 with ⟨_, h0⟩ | ⟨g, c, cur, rfl, k1, k2, k3, k4, k5, k6⟩
  · omega
  have hnc : n ≤ c := by omega
  obtain ⟨ad, had⟩ : ∃ ad : Addr, (if c = b then some (⟨g, 0, none⟩ : Addr) else (some (⟨g, 0, none⟩ : Addr)).map (·.add (b * 4))) = some ad := by
    by_cases hcb : c = b
    · exact ⟨_, if_pos hcb⟩
    · exact ⟨_, if_neg hcb⟩
  have h1 := slice_mid (some ⟨g, 0, none⟩) n c a b (Nat.le_of_lt hab) hb hnc
  have h2 := slice_upto (some ⟨g, 0, none⟩) n c a a rfl (by omega)
  have h3 := slice_fromI (some ⟨g, 0, none⟩) n c b hb
  rw [had] at h3
  obtain ⟨x, hx⟩ : ∃ x, (Value.slice (if n = a then some (⟨g, 0, none⟩ : Addr) else (some (⟨g, 0, none⟩ : Addr)).map (·.add (a * 4))) (b - a) (n - a)) = x := ⟨_, rfl⟩
  rw [hx] at h1
  obtain ⟨r, hr⟩ : ∃ r, n - b = r := ⟨_, rfl⟩
  obtain ⟨rc, hrc⟩ : ∃ r, c - b = r := ⟨_, rfl⟩
  rw [hr, hrc] at h3
  have hnews : (ptC (l.drop b)).length = r * 4 := by rw [ptC_len, List.length_drop, hN, hr]
  have hsrc : ∀ j u, (ptC (l.drop b))[j]? = some u → w.cell? (ad.add j) = some u := fun j u hj => by
    have hjl : j < r * 4 := by rw [← hnews]; exact (List.getElem?_eq_some_iff.1 hj).1
    rw [if_neg (by omega)] at had
    simp only [Option.map_some, Option.some.injEq] at had
    subst had
    rw [addr_lit, addr_lit, Nat.zero_add, hs.cellAt (b * 4 + j) (by omega), ← List.getElem?_drop, ptC_drop]
    exact hj
  have HSRC := Lib.hid hsrc
  have HNEWS := Lib.hid hnews
  have HCUR := Lib.hid k2
  have HLEN := Lib.hid (show a * 4 + r * 4 ≤ cur.size by omega)
  have HSZ := Lib.hid k5
  have HN := Lib.hid hN
  have HBASE := Lib.hid k1
  have hr2 : r + b = n := by omega
  have hab' : ((a : Int) == (b : Int)) = false := by simp; omega
  obtain ⟨k, hk⟩ : ∃ k, a + r = k := ⟨_, rfl⟩
  have h4 := slice_both (some ⟨g, 0, none⟩) k c k n (by omega) hnc
  rw [if_neg (show ¬ c = k by omega)] at h4
  simp only [Option.map_some, addr_lit, Nat.zero_add] at h4
  obtain ⟨q, hq⟩ : ∃ q, n - k = q := ⟨_, rfl⟩
  obtain ⟨qc, hqc⟩ : ∃ qc, c - k = qc := ⟨_, rfl⟩
  obtain ⟨ko, hko⟩ : ∃ ko, k * 4 = ko := ⟨_, rfl⟩
  rw [hq, hqc, hko] at h4
  have HAK := Lib.hid hk
  have HKO := Lib.hid hko
  have HQ := Lib.hid (show q = b - a ∧ k + q = n ∧ k ≤ c by omega)
  have HRN := Lib.hid hr2
  have HOLD := Lib.hid (show cur.size = c * 4 ∧ n ≤ c from ⟨k5, hnc⟩)
  have K6 := Lib.hid k6
  have K4 := Lib.hid k4
  clear hs k1 k2 k3 k4 k5 k6 hx hr hrc hnews hsrc hr2 hk hq hqc hko had hi hz0 hz1 hz2 hz3
  go_enter Try.func36, Try.ntmps36
  go_wp2_with fail
  go_region_law (refine step_append_in (by rfl) _ _ (by rfl) i0 HI.out HI1.out g a c (by simp [Act.eval, Act.put]) ad r rc (ptC (l.drop b)) (by simp [Act.eval, Act.put]) HNEWS.out HSRC.out (ptC_one _) k HAK.out HQ.out.2.2 cur HCUR.out HLEN.out ?_; intro w2 hg2 ho2)
  have HG2 := Lib.hid hg2.out
  obtain ⟨L2, hL2⟩ : ∃ L2, splice cur.toList (a * 4) (ptC (l.drop b)) = L2 := ⟨_, rfl⟩
  rw [hL2] at HG2
  have hl2 : L2.length = c * 4 := by
    rw [← hL2, length_splice]
    · simpa using HOLD.out.1
    · rw [HNEWS.out]; simpa using HLEN.out
  obtain ⟨cs, hcl, hcr⟩ := run_clear w2 g ko q qc (by have := HQ.out.1; omega) (spare_of HG2.out ko (q * 4) (by simp only [List.size_toArray, hl2]; have := HQ.out.2; have := HKO.out; have := HOLD.out.2; omega))
  obtain ⟨hg3, ho3⟩ := setCells_heap g 33 cs ko w2 _ HG2.out (by simp only [List.size_toArray, hl2, hcl]; have := HQ.out.2; have := HKO.out; have := HOLD.out.2; omega)
  generalize w2.setCells g ko cs = w3 at hcr hg3 ho3
  have HG3 := Lib.hid hg3
  have HO3 := Lib.hid (show OnlyD g w w3 from OnlyD.trans ⟨ho2.1, ho2.2.1, ho2.2.2.1, ho2.2.2.2.1, ho2.2.2.2.2⟩ ho3)
  have HL2 := Lib.hid hL2
  have HLL := Lib.hid hl2
  have HCL := Lib.hid hcl
  clear hg2 ho2 hL2 hl2 hcl hg3 ho3
  go_wp2_with fail
  go_ret
  have hdel : (l.take a ++ l.drop b).length = k := by rw [List.length_append, List.length_take, List.length_drop, HN.out, Nat.min_eq_left (by omega)]; have := HAK.out; have := HRN.out; omega
  have hcells : (splice L2 ko cs).take (k * 4) = ptC (l.take a ++ l.drop b) := by
    rw [HKO.out, splice_take _ _ _ (by rw [HLL.out, ← HKO.out]; have := HQ.out.2; omega), ← HL2.out]
    have h5 := splice_take' cur.toList (a * 4) (ptC (l.drop b)) (by have := HLEN.out; simp; omega)
    rw [HNEWS.out, show a * 4 + r * 4 = ko by rw [← HKO.out, ← HAK.out]; omega] at h5
    rw [h5, ptC_append]
    congr 1
    have h6 := K6.out
    have h7 : (cur.toList.take (n * 4)).take (a * 4) = (ptC l).take (a * 4) := by rw [h6]
    rw [List.take_take, Nat.min_eq_left (by omega), ptC_take] at h7
    exact h7
  refine ⟨_, rfl, ?_, rfl, HO3.out.turns rfl⟩
  rw [hdel]
  refine ⟨by rw [ptC_len, hdel], .inr ⟨g, c, _, rfl, HBASE.out, HG3.out, HQ.out.2.2, K4.out, ?_, ?_⟩⟩
  · rw [List.size_toArray, length_splice]
    · exact HLL.out
    · rw [HCL.out, HLL.out]; have := HQ.out.2; have := HKO.out; have := HOLD.out.2; omega
  · exact hcells
theorem delete (w : World) (base : Nat) (v : Value) (l : List Pt) (a b : Nat) (hs : w.ownsRow base 33 4 v l.length (ptC l)) (hab : a ≤ b) (hb : b ≤ l.length) (hn : l.length ≤ 1000000000000) :
    Calls Try.prog 36 #[v, .int .i64 a, .int .i64 b] w (DelPost w base v l a b) := by
  rcases Nat.lt_or_eq_of_le hab with h | rfl
  · exact delete_some w base v l a b hs h hb hn
  · exact delete_same w base v l a hs hb hn
end Go.Proofs.Ytfhdaihladgchaa
