/- A point is put into a row of points that has no room; and into any row. Conditions: its place, the row's length. -/
import Derived.Test.YtfhdaihladgchaaF
namespace Go.Proofs.Ytfhdaihladgchaa
open Go.RowKit
theorem splice_two' (L A B V : List Value) (d : Nat) (hL : L.length ≥ A.length + V.length + B.length) (hA : L.take A.length = A) (hd : d = A.length + V.length) :
    (splice (splice L A.length V) d B).take (A.length + V.length + B.length) = A ++ V ++ B := by
  subst hd
  obtain ⟨M, hM⟩ : ∃ M, M = splice L A.length V := ⟨_, rfl⟩
  have hM0 : M = A ++ (V ++ L.drop (A.length + V.length)) := by rw [hM]; unfold splice; rw [hA]
  have hM1 : M.take (A.length + V.length) = A ++ V := by
    rw [hM0, ← List.append_assoc, List.take_append_of_le_length (by simp), List.take_of_length_le (by simp)]
  rw [← hM]
  show (M.take (A.length + V.length) ++ (B ++ M.drop (A.length + V.length + B.length))).take _ = _
  rw [hM1, ← List.append_assoc]
  rw [List.take_append_of_le_length (by simp; omega), List.take_of_length_le (by simp; omega)]
set_option maxRecDepth 100000 in
set_option maxHeartbeats 1000000 in
theorem insert_grow (w : World) (base g n c i vb : Nat) (l : List Pt) (p : Pt) (hs : w.ownsRow base 33 4 (.slice (some ⟨g, 0, none⟩) n c) n (ptC l)) (hl : l.length = n) (hi : i < n) (hroom : c < n + 1) (hv : w.heap[vb]? = some (.cells (ptV p).toArray 33 (0, 0))) (hbase : base ≤ w.heap.size) (hn : n ≤ 1000000000000) :
    Calls Try.prog 24 #[.slice (some ⟨g, 0, none⟩) n c, .int .i64 i, .slice (some ⟨vb, 0, none⟩) 1 1] w (InsPost w base (.slice (some ⟨g, 0, none⟩) n c) l i p) := by
  have hgl : g < w.heap.size := (hs.lt g rfl).2
  have hnc : n ≤ c := by
    rcases hs.2 with ⟨h1, _⟩ | ⟨g', c', cur, h1, h2, h3, h4, h5, h6, h7⟩
    · cases h1
    · cases h1
      exact h4
  obtain ⟨i0, z, hinf, hz0, hz1, hz2, hz3⟩ := zparts33
  have hsz : (Try.prog.info? 33).map (·.size) = some 4 := by kernel_rfl
  have HSZ := Lib.hid hsz
  have e0 := slice_upto (some ⟨g, 0, none⟩) n c i (i : Int) rfl (by omega)
  have e1 := slice_from g 0 n c i (i : Int) rfl (by omega) (by omega)
  obtain ⟨G, hG⟩ : ∃ G, grownCap w (n + 1) c 33 = G := ⟨_, rfl⟩
  have hGn : n + 1 ≤ G := by rw [← hG]; exact grownCap_ge w _ _ _
  have hGm : G ≤ maxLen := by rw [← hG]; exact grownCap_le_maxLen w (n + 1) c 33 (by unfold maxLen; omega)
  have hdl : (ptC (l.drop i)).length = (n - i) * 4 := by rw [ptC_len, List.length_drop, hl]
  have htl : (ptC (l.take i)).length = i * 4 := by rw [ptC_len, List.length_take, hl]; congr 1; omega
  have hold : (Builtin.firstCells i0.size i (.slice (some ⟨g, 0, none⟩) i c)).run Try.prog w.drew = .ok (ptC (l.take i)).toArray w.drew := by
    rw [hz1]
    exact run_firstCells_some w.drew 4 i ⟨g, 0, none⟩ i c (ptC (l.take i)) (by rw [htl]) (fun j v hj => by
      rw [← ptC_take, List.getElem?_take] at hj
      split at hj
      · exact hs.cells rfl j v hj
      · cases hj)
  obtain ⟨ROW, hROW⟩ : ∃ ROW : Array Value, (ptC (l.take i)).toArray ++ Builtin.zeroCells z.cells (n + 1 - i) ++ Builtin.zeroCells z.cells (G - (n + 1)) = ROW := ⟨_, rfl⟩
  have hrz : ∀ ty, (Builtin.append_ #[23, 3] ty #[.slice (some ⟨g, 0, none⟩) i c, .int .i64 ((n : Int) + 1 - (i : Int))]).run Try.prog w = .ok (.slice (some ⟨w.heap.size, 0, none⟩) (n + 1) G) (w.drew.alloc (.cells ROW 33)) := fun ty => by
    have h := Lib.run_append_grow_zeros w 23 3 ty 33 i0 z .i64 .i64 Try.underlying23 Try.underlying3 hinf hz0 (some ⟨g, 0, none⟩) i c (ptC (l.take i)) hold (n + 1 - i) (by omega) (by omega) (by omega) (by omega) (by rw [hz2]; omega) (by rw [hz2]; exact growslice_fits (by omega) (by omega))
    have hik : i + (n + 1 - i) = n + 1 := by omega
    have hkk : (n : Int) + 1 - (i : Int) = ((n + 1 - i : Nat) : Int) := by omega
    rw [hik, hG, hROW] at h
    rw [hkk]
    exact h
  have hRs : ROW.size = G * 4 := by
    rw [← hROW]
    simp only [Array.size_append, size_zeroCells, hz3, List.size_toArray, htl]
    omega
  have hRt : ROW.toList.take (i * 4) = ptC (l.take i) := by
    rw [← hROW]
    simp only [Array.toList_append, List.append_assoc]
    rw [← htl]
    exact List.take_left
  obtain ⟨H, hH⟩ : ∃ H, w.heap.size = H := ⟨_, rfl⟩
  have e2 := slice_from H 0 (n + 1) G i (i : Int) rfl (by omega) (by omega)
  have e3 := slice_from H 0 (n + 1) G (i + 1) ((i : Int) + 1) (by omega) (by omega) (by omega)
  rw [Nat.zero_add] at e1 e2 e3
  obtain ⟨o1, ho1⟩ : ∃ o1, (i + 1) * 4 = o1 := ⟨_, rfl⟩
  obtain ⟨o0, ho0⟩ : ∃ o0, i * 4 = o0 := ⟨_, rfl⟩
  obtain ⟨dl, hdl'⟩ : ∃ dl, n + 1 - (i + 1) = dl := ⟨_, rfl⟩
  obtain ⟨dc, hdc⟩ : ∃ dc, G - (i + 1) = dc := ⟨_, rfl⟩
  obtain ⟨vl, hvl⟩ : ∃ vl, n + 1 - i = vl := ⟨_, rfl⟩
  obtain ⟨vc, hvc⟩ : ∃ vc, G - i = vc := ⟨_, rfl⟩
  obtain ⟨sl, hsl⟩ : ∃ sl, n - i = sl := ⟨_, rfl⟩
  obtain ⟨sc, hsc⟩ : ∃ sc, c - i = sc := ⟨_, rfl⟩
  rw [ho0, hsl, hsc] at e1
  rw [ho0, hvl, hvc] at e2
  rw [ho1, hdl', hdc] at e3
  have hsrc : ∀ j v, (ptC (l.drop i))[j]? = some v → w.cell? ((⟨g, o0, none⟩ : Addr).add j) = some v := fun j v hj => by
    rw [← ptC_drop, List.getElem?_drop] at hj
    have := hs.cells rfl (i * 4 + j) v hj
    rw [addr_lit] at this ⊢
    rw [Nat.zero_add, ho0] at this; exact this
  obtain ⟨w1, hw1⟩ : ∃ w1, w.drew.alloc (.cells ROW 33) = w1 := ⟨_, rfl⟩
  have hb1 : Below w.heap.size w w1 := by rw [← hw1]; exact (Below.refl _ _).drew.alloc (Nat.le_refl _) _
  have hg1 : w1.heap[H]? = some (.cells ROW.toList.toArray 33 (0, 0)) := by rw [← hw1, ← hH]; simpa using heap_alloc_new w.drew (.cells ROW 33)
  have hv1 : w1.heap[vb]? = some (.cells (ptV p).toArray 33 (0, 0)) := (hb1.block vb (heap_lt hv)).trans hv
  have hvH : vb ≠ H := by have := heap_lt hv; omega
  have hsrc1 : ∀ j v, (ptC (l.drop i))[j]? = some v → w1.cell? ((⟨g, o0, none⟩ : Addr).add j) = some v := fun j v hj => by
    rw [hb1.cell (by rw [add_block]; exact hgl)]; exact hsrc j v hj
  rw [hw1, hH] at hrz
  have HRZ := Lib.hid hrz
  have HSRC := Lib.hid hsrc1
  have HG1 := Lib.hid hg1
  have HV1 := Lib.hid (World.news_of_block (cs := (ptV p).toArray) hv1)
  have HB1 := Lib.hid hb1
  have HDL := Lib.hid hdl
  have HTL := Lib.hid htl
  have HRS := Lib.hid hRs
  have HRT := Lib.hid hRt
  have HO1 := Lib.hid ho1
  have HO0 := Lib.hid ho0
  have HDD := Lib.hid hdl'
  have HVL := Lib.hid hvl
  have HSL := Lib.hid hsl
  have HL := Lib.hid hl
  have HVH := Lib.hid hvH
  have HH := Lib.hid hH
  have HGM := Lib.hid hGm
  have HGL := Lib.hid hgl
  have HBA := Lib.hid hbase
  clear hsz hs hl hv hrz hsrc hsrc1 hg1 hv1 hb1 hdl htl hRs hRt ho1 ho0 hdl' hdc hvl hvc hsl hsc hw1 hH hROW hold hinf hz0 hz1 hz2 hz3 hG hvH hGm hgl hbase
  go_enter Try.func24, Try.ntmps24
  go_wp2_with (first
    | (at_builtin; refine Lib.wpList_append_run _ rfl _ _ _ _ rfl _ _ rfl rfl _ _ (HRZ.out _) ?_)
    | (with_reducible refine wpList_copyN rfl _ _ 23 23 rfl 33 4 Try.underlying23 HSZ.out H o0 vl vc ⟨vb, 0, none⟩ 1 1 rfl rfl ROW.toList 33 HG1.out (ptV p) (by have := HVL.out; simp only [ptV, List.length_cons, List.length_nil, Nat.min_def]; split <;> omega) HV1.out (by have := HRS.out; have := HO0.out; simp only [ptV, List.length_cons, List.length_nil, Array.length_toList]; omega) (by simp [ptV, Value.oneCell']) ?_; intro w2 hg2 ho2))
  have HG2 := Lib.hid hg2.out
  have HO2 := Lib.hid ho2
  have HSRC2 : Hid (∀ j v, (ptC (l.drop i))[j]? = some v → w2.cell? ((⟨g, o0, none⟩ : Addr).add j) = some v) := Lib.hid (fun j v hj => by
    have h5 := HSRC.out j v hj
    exact (World.cell?_of_block (ho2.2.2.2.2 _ (by rw [add_block]; have := HGL.out; have := HH.out; show g ≠ H; omega))).trans h5)
  obtain ⟨C2, hC2⟩ : ∃ C2, splice ROW.toList o0 (ptV p) = C2 := ⟨_, rfl⟩
  rw [hC2] at HG2
  have HC2 := Lib.hid hC2
  have hlen2 : C2.length = G * 4 := by
    rw [← hC2, length_splice]
    · simpa using HRS.out
    · have := HRS.out; have := HO0.out; simp only [ptV, List.length_cons, List.length_nil, Array.length_toList]; omega
  have HLEN2 := Lib.hid hlen2
  clear hg2 ho2 hC2 hlen2
  have hj0 : (0 : Int) ≤ (i : Int) + 1 := by omega
  have hj1 : (i : Int) + 1 ≤ (n : Int) + 1 := by omega
  have hwr : IntKind.i64.wrap ((i : Int) + 1) = (i : Int) + 1 := IntWalk.i64_in _ (by omega)
  go_wp2_with fail
  go_region_law (refine step_copyN (by rfl) _ _ 23 23 (by rfl) 33 4 Try.underlying23 HSZ.out H o1 dl dc ⟨g, o0, none⟩ sl sc (by simp [Act.eval, Act.put]) (by simp [Act.eval, Act.put]) C2 33 HG2.out (ptC (l.drop i)) (by rw [HDL.out]; congr 1; have := HDD.out; have := HSL.out; simp only [Nat.min_def]; split <;> omega) HSRC2.out (by have := HLEN2.out; have := HO1.out; rw [HDL.out]; omega) (ptC_one _) ?_; intro w3 hg3 ho3)
  have HG3 := Lib.hid hg3.out
  have HO3 := Lib.hid (show OnlyD H w1 w3 from HO2.out.trans ⟨ho3.1, ho3.2.1, ho3.2.2.1, ho3.2.2.2.1, ho3.2.2.2.2⟩)
  clear hg3 ho3 hj0 hj1 hwr
  go_wp2_with fail
  go_ret
  have hfin : (splice C2 o1 (ptC (l.drop i))).take ((n + 1) * 4) = ptC (l.take i ++ p :: l.drop i) := by
    have hA : (ptC (l.take i)).length = o0 := by rw [HTL.out]; exact HO0.out
    have h5 := splice_two' ROW.toList (ptC (l.take i)) (ptC (l.drop i)) (ptV p) o1 (by
      have := HRS.out; have := HO0.out; rw [hA, HDL.out]; simp [ptV]; omega) (by rw [HTL.out]; exact HRT.out) (by have := HO0.out; have := HO1.out; rw [hA]; simp [ptV]; omega)
    rw [hA, HC2.out, HDL.out] at h5
    have h6 : o0 + (ptV p).length + (n - i) * 4 = (n + 1) * 4 := by have := HO0.out; simp [ptV]; omega
    rw [h6] at h5
    rw [h5, ptC_append]
    simp [ptC, ptV]
  have hb3 : Below w.heap.size w w3 := HB1.out.trans ⟨HO3.out.1, HO3.out.2.1, HO3.out.2.2.1, by rw [HO3.out.2.2.2.1]; exact Nat.le_refl _, fun k hk => HO3.out.2.2.2.2 k (by have := HH.out; omega)⟩
  refine ⟨.slice (some ⟨H, 0, none⟩) (n + 1) G, rfl, ⟨?_, .inr ⟨H, G, _, by rw [HL.out], by have := HBA.out; have := HH.out; omega, HG3.out, by rw [HL.out]; exact hGn, HGM.out, ?_, ?_⟩⟩, ?_, .inr (by rw [HH.out]; rfl)⟩
  · rw [ptC_len, List.length_append, List.length_take, List.length_cons, List.length_drop, HL.out]; omega
  · rw [List.size_toArray, length_splice]
    · exact HLEN2.out
    · have := HLEN2.out; have := HO1.out; rw [HDL.out]; omega
  · rw [HL.out]; exact hfin
  · exact ⟨hb3.os, hb3.tape, hb3.output, hb3.size, fun k hk _ => hb3.block k hk⟩
/-- slices.Insert of one point. -/
theorem insert (w : World) (base : Nat) (v : Value) (i vb : Nat) (l : List Pt) (p : Pt) (hs : w.ownsRow base 33 4 v l.length (ptC l)) (hi : i ≤ l.length) (hv : w.heap[vb]? = some (.cells (ptV p).toArray 33 (0, 0))) (hne : v.ownBlock ≠ some vb) (hbase : base ≤ w.heap.size) (hn : l.length ≤ 1000000000000) :
    Calls Try.prog 24 #[v, .int .i64 i, .slice (some ⟨vb, 0, none⟩) 1 1] w (InsPost w base v l i p) := by
  by_cases he : i = l.length
  · subst he
    exact insert_end w base v l p vb hs hv hbase hn
  · rcases hs.2 with ⟨h1, h2⟩ | ⟨g, c, cur, rfl, _⟩
    · omega
    · by_cases hc : l.length + 1 ≤ c
      · exact insert_shift w base g _ c i vb l p hs rfl (by omega) hc hv (fun e => hne (by rw [e]; rfl)) hn
      · exact insert_grow w base g _ c i vb l p hs rfl (by omega) (by omega) hv hbase hn
end Go.Proofs.Ytfhdaihladgchaa
