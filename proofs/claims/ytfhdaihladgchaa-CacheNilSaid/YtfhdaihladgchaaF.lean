/- A point is put into the midst of a row of points that has room. Conditions: its place, the row's length. -/
import Derived.Test.YtfhdaihladgchaaE
import Derived.IntWalk
namespace Go.Proofs.Ytfhdaihladgchaa
open Go.RowKit
theorem splice_two (L A B V : List Value) (d : Nat) (hL : L.length ≥ A.length + B.length + V.length) (hA : L.take (A.length + B.length) = A ++ B) (hd : d = A.length + V.length) :
    (splice (splice L d B) A.length V).take (A.length + V.length + B.length) = A ++ V ++ B := by
  subst hd
  have e1 : L = A ++ B ++ L.drop (A.length + B.length) := by rw [← hA, List.take_append_drop]
  have e0 : L.take A.length = A := by
    have h2 : (L.take (A.length + B.length)).take A.length = (A ++ B).take A.length := by rw [hA]
    rw [List.take_take, Nat.min_eq_left (by omega)] at h2
    rw [h2, List.take_left]
  obtain ⟨M, hM⟩ : ∃ M, M = splice L (A.length + V.length) B := ⟨_, rfl⟩
  have hM0 : M = L.take (A.length + V.length) ++ (B ++ L.drop (A.length + V.length + B.length)) := hM
  have hlt : (L.take (A.length + V.length)).length = A.length + V.length := by rw [List.length_take]; omega
  have hM1 : M.take A.length = A := by
    rw [hM0, List.take_append_of_le_length (by omega), List.take_take, Nat.min_eq_left (by omega), e0]
  have hM2 : M.drop (A.length + V.length) = B ++ L.drop (A.length + V.length + B.length) := by
    rw [hM0, List.drop_append_of_le_length (by omega), List.drop_of_length_le (by omega), List.nil_append]
  rw [← hM]
  show (M.take A.length ++ (V ++ M.drop (A.length + V.length))).take _ = _
  rw [hM1, hM2, ← List.append_assoc, ← List.append_assoc]
  rw [List.take_append_of_le_length (by simp; omega), List.take_of_length_le (by simp; omega)]
theorem addr_lit (g o j : Nat) : (⟨g, o, none⟩ : Addr).add j = ⟨g, o + j, none⟩ := by unfold Addr.add; split <;> simp_all
theorem sizeOf33 (w : World) : (Go.sizeOf 33).run Try.prog w = .ok 4 w := by
  obtain ⟨i0, z, hi, _, hz1, _⟩ := zparts33
  simp [Go.sizeOf, typeInfo, hi, hz1]
set_option maxRecDepth 100000 in
set_option maxHeartbeats 1000000 in
theorem insert_shift (w : World) (base g n c i vb : Nat) (l : List Pt) (p : Pt) (hs : w.ownsRow base 33 4 (.slice (some ⟨g, 0, none⟩) n c) n (ptC l)) (hl : l.length = n) (hi : i < n) (hroom : n + 1 ≤ c) (hv : w.heap[vb]? = some (.cells (ptV p).toArray 33 (0, 0))) (hne : vb ≠ g) (hn : n ≤ 1000000000000) :
    Calls Try.prog 24 #[.slice (some ⟨g, 0, none⟩) n c, .int .i64 i, .slice (some ⟨vb, 0, none⟩) 1 1] w (InsPost w base (.slice (some ⟨g, 0, none⟩) n c) l i p) := by
  obtain ⟨cur, hbg, hg, hcm, hcs, htk⟩ : ∃ cur, base ≤ g ∧ w.heap[g]? = some (.cells cur 33 (0, 0)) ∧ c ≤ maxLen ∧ cur.size = c * 4 ∧ cur.toList.take (n * 4) = ptC l := by
    rcases hs.2 with ⟨h1, _⟩ | ⟨g', c', cur, h1, h2, h3, h4, h5, h6, h7⟩
    · cases h1
    · cases h1
      exact ⟨cur, h2, h3, h5, h6, h7⟩
  have hsz : (Try.prog.info? 33).map (·.size) = some 4 := by kernel_rfl
  have HSZ := Lib.hid hsz
  have e1 := slice_from g 0 n c i (i : Int) rfl (by omega) (by omega)
  have e2 := slice_upto (some ⟨g, 0, none⟩) n c (n + 1) ((n : Int) + 1) (by omega) hroom
  have e3 := slice_from g 0 (n + 1) c (i + 1) ((i : Int) + 1) (by omega) (by omega) (by omega)
  have e4 := slice_from g 0 (n + 1) c i (i : Int) rfl (by omega) (by omega)
  rw [Nat.zero_add] at e1 e3 e4
  obtain ⟨o1, ho1⟩ : ∃ o1, (i + 1) * 4 = o1 := ⟨_, rfl⟩
  obtain ⟨o0, ho0⟩ : ∃ o0, i * 4 = o0 := ⟨_, rfl⟩
  obtain ⟨dl, hdl⟩ : ∃ dl, n + 1 - (i + 1) = dl := ⟨_, rfl⟩
  obtain ⟨dc, hdc⟩ : ∃ dc, c - (i + 1) = dc := ⟨_, rfl⟩
  obtain ⟨sl, hsl⟩ : ∃ sl, n + 1 - i = sl := ⟨_, rfl⟩
  obtain ⟨sc, hsc⟩ : ∃ sc, c - i = sc := ⟨_, rfl⟩
  rw [ho1, hdl, hdc] at e3
  rw [ho0, hsl, hsc] at e4
  rw [ho0, hsc] at e1
  have hov : ∀ lb cb, (callFunc 43 #[.slice (some ⟨vb, 0, none⟩) 1 1, .slice (some ⟨g, o1, none⟩) lb cb]).run Try.prog w = .ok (.value (.bool false)) w := fun lb cb => by
    rw [run_callFunc_extern Try.func43 (by kernel_rfl) (by kernel_rfl) (by kernel_rfl) (e := Extern.SlicesOverlaps.overlaps #[23, 23] #[4]) (by kernel_rfl),
      Lib.run_overlaps_apart w 23 4 33 Try.underlying23 4 sizeOf33 ⟨vb, 0, none⟩ ⟨g, o1, none⟩ 1 1 lb cb hne 33 33 4 cur.size (by simp [World.shape?, hv, ptV]) (by simp [World.shape?, hg]) (by omega) (by simp [World.frozen?, hv]) (by simp [World.frozen?, hv])]
    rfl
  have hdn : (ptC (l.drop i)).length = (n - i) * 4 := by rw [ptC_len, List.length_drop, hl]
  have hsrc : ∀ j v, (ptC (l.drop i))[j]? = some v → w.cell? ((⟨g, o0, none⟩ : Addr).add j) = some v := fun j v hj => by
    rw [← ptC_drop, List.getElem?_drop] at hj
    have := hs.cells rfl (i * 4 + j) v hj
    rw [addr_lit] at this ⊢
    rw [Nat.zero_add, ho0] at this; exact this
  have HG := Lib.hid (show w.heap[g]? = some (.cells cur.toList.toArray 33 (0, 0)) by simpa using hg)
  have HV := Lib.hid hv
  have HSRC := Lib.hid hsrc
  have HDL := Lib.hid hdn
  have HO1 := Lib.hid ho1
  have HO0 := Lib.hid ho0
  have HDD := Lib.hid hdl
  have HSS := Lib.hid hsl
  have HCS := Lib.hid hcs
  have HTK := Lib.hid htk
  have HL := Lib.hid hl
  have HCM := Lib.hid hcm
  have HBG := Lib.hid hbg
  have HNE := Lib.hid hne
  clear hsz hs hl hv hne hg hcm hcs htk hsrc hdn ho1 ho0 hdl hdc hsl hsc
  go_enter Try.func24, Try.ntmps24
  go_wp2_with (simp only [hov])
  have hj0 : (0 : Int) ≤ (i : Int) + 1 := by omega
  have hj1 : (i : Int) + 1 ≤ (n : Int) + 1 := by omega
  have hwr : IntKind.i64.wrap ((i : Int) + 1) = (i : Int) + 1 := IntWalk.i64_in _ (by omega)
  go_region_law (refine step_copyN (by rfl) _ _ 23 23 (by rfl) 33 4 Try.underlying23 HSZ.out g o1 dl dc ⟨g, o0, none⟩ sl sc (by simp [Act.eval, Act.put]) (by simp [Act.eval, Act.put]) cur.toList 33 HG.out (ptC (l.drop i)) (by rw [HDL.out]; congr 1; have := HDD.out; have := HSS.out; simp only [Nat.min_def]; split <;> omega) HSRC.out (by have := HCS.out; have := HO1.out; rw [HDL.out]; simp; omega) (ptC_one _) ?_; intro w2 hg2 ho2)
  have hod : OnlyD g w w2 := ⟨ho2.1, ho2.2.1, ho2.2.2.1, ho2.2.2.2.1, ho2.2.2.2.2⟩
  have HOD := Lib.hid hod
  have HG2 := Lib.hid hg2.out
  have hv2 : w2.heap[vb]? = some (.cells (ptV p).toArray 33 (0, 0)) := (hod.2.2.2.2 vb HNE.out).trans HV.out
  have HV2 := Lib.hid (World.news_of_block (cs := (ptV p).toArray) hv2)
  obtain ⟨C2, hC2⟩ : ∃ C2, splice cur.toList o1 (ptC (l.drop i)) = C2 := ⟨_, rfl⟩
  rw [hC2] at HG2
  have HC2 := Lib.hid hC2
  have hlen2 : C2.length = c * 4 := by
    rw [← hC2, length_splice]
    · have := HCS.out; simpa using this
    · have := HCS.out; have := HO1.out; rw [HDL.out]; simp; omega
  have HLEN2 := Lib.hid hlen2
  clear hg2 ho2 hod hv2 hC2 hlen2 hov
  go_wp2_with (with_reducible refine wpList_copyN rfl _ _ 23 23 rfl 33 4 Try.underlying23 HSZ.out g o0 sl sc ⟨vb, 0, none⟩ 1 1 rfl rfl C2 33 HG2.out (ptV p) (by have := HSS.out; simp only [ptV, List.length_cons, List.length_nil, Nat.min_def]; split <;> omega) HV2.out (by have := HLEN2.out; have := HO0.out; simp only [ptV, List.length_cons, List.length_nil]; omega) (by simp [ptV, Value.oneCell']) ?_; intro w3 hg3 ho3)
  have HG3 := Lib.hid hg3.out
  have HO3 := Lib.hid (HOD.out.trans ho3)
  clear hg3 ho3
  go_wp2_with fail
  go_ret
  have hfin : (splice C2 o0 (ptV p)).take ((n + 1) * 4) = ptC (l.take i ++ p :: l.drop i) := by
    have hA : (ptC (l.take i)).length = o0 := by rw [ptC_len, List.length_take, HL.out, ← HO0.out]; congr 1; omega
    have h5 := splice_two cur.toList (ptC (l.take i)) (ptC (l.drop i)) (ptV p) o1 (by
      have := HCS.out; have := HO0.out; have := HO1.out; rw [hA, HDL.out]; simp [ptV]; omega) (by
      have h7 : o0 + (n - i) * 4 = n * 4 := by have := HO0.out; omega
      rw [hA, HDL.out, h7, HTK.out, ← ptC_append, List.take_append_drop]) (by have := HO0.out; have := HO1.out; rw [hA]; simp [ptV]; omega)
    rw [hA, HC2.out, HDL.out] at h5
    have h6 : o0 + (ptV p).length + (n - i) * 4 = (n + 1) * 4 := by have := HO0.out; simp [ptV]; omega
    rw [h6] at h5
    rw [h5, ptC_append]
    simp [ptC, ptV]
  refine ⟨.slice (some ⟨g, 0, none⟩) (n + 1) c, rfl, ⟨?_, .inr ⟨g, c, _, by rw [HL.out], HBG.out, HG3.out, by rw [HL.out]; exact hroom, HCM.out, ?_, ?_⟩⟩, ?_, .inl rfl⟩
  · rw [ptC_len, List.length_append, List.length_take, List.length_cons, List.length_drop, HL.out]; omega
  · rw [List.size_toArray, length_splice]
    · exact HLEN2.out
    · have := HLEN2.out; have := HO0.out; simp only [ptV, List.length_cons, List.length_nil]; omega
  · rw [HL.out]; exact hfin
  · exact ⟨HO3.out.1, HO3.out.2.1, HO3.out.2.2.1, by rw [HO3.out.2.2.2.1]; exact Nat.le_refl _, fun k _ hk => HO3.out.2.2.2.2 k (fun e => hk (by rw [e]; rfl))⟩
end Go.Proofs.Ytfhdaihladgchaa
