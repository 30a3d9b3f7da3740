/- The document's disk: a file gets another name. Condition: the files' number; they rise. -/
import Derived.Test.YtjkgcpbgacdgaaaAL
namespace Go.Proofs.Ytjkgcpbgacdgaaa
open Go.RowKit Go.Sort
def Rising (R : List RFile) : Prop := R.Pairwise fun a b => Op.bytesLess a.name.data.toList b.name.data.toList = true
theorem rising_like {L : List Ent} {R : List RFile} (h : Like L R) (hr : (nameL L).Pairwise fun a b => Op.bytesLess a b = true) : Rising R := by
  have e1 : nameL L = (L.map pE).map fun p => p.name.data.toList := by simp [nameL, pE]
  rw [e1, h, List.map_map, List.pairwise_map] at hr
  exact hr
theorem bytesLess_irr (l : List UInt8) : Op.bytesLess l l = false := by rw [bytesLess_eq]; simp
theorem bytesLess_asym {a b : List UInt8} (h : Op.bytesLess a b = true) : Op.bytesLess b a = false := by
  rw [bytesLess_eq] at h ⊢
  simp at h ⊢
  exact List.le_of_lt h
theorem erase_place {R : List RFile} (hr : Rising R) {k : Nat} {x : RFile} (hx : R[k]? = some x) : Place (R.eraseIdx k) x.name k ∧ (R.eraseIdx k).take k ++ x :: (R.eraseIdx k).drop k = R ∧ ∀ y ∈ R.eraseIdx k, y.name ≠ x.name := by
  obtain ⟨hk, hx'⟩ := List.getElem?_eq_some_iff.1 hx
  have e1 : R = R.take k ++ x :: R.drop (k + 1) := by rw [← hx', List.getElem_cons_drop, List.take_append_drop]
  have e2 : R.eraseIdx k = R.take k ++ R.drop (k + 1) := List.eraseIdx_eq_take_drop_succ R k
  have hlt : (R.take k).length = k := by rw [List.length_take]; omega
  have hp := hr
  unfold Rising at hp
  rw [e1, List.pairwise_append, List.pairwise_cons] at hp
  obtain ⟨_, ⟨h2, _⟩, h3⟩ := hp
  rw [e2]
  have hne : ∀ {a b : ByteArray}, Op.bytesLess a.data.toList b.data.toList = true → a ≠ b := fun h e => by rw [e, bytesLess_irr] at h; cases h
  refine ⟨⟨by simp; omega, fun j hj hj' => ?_, fun hk' => ?_⟩, ?_, fun y hy => ?_⟩
  · rw [List.getElem_append_left (by omega)]
    exact h3 _ (List.getElem_mem _) x (by simp)
  · rw [List.getElem_append_right (by omega)]
    exact bytesLess_asym (h2 _ (List.getElem_mem _))
  · rw [List.take_append_of_le_length (by omega), List.take_of_length_le (by omega)]
    rw [List.drop_append_of_le_length (by omega), List.drop_eq_nil_of_le (by omega)]
    exact e1.symm
  · rcases List.mem_append.1 hy with hy | hy
    · exact hne (h3 y hy x (by simp))
    · exact (hne (h2 y hy)).symm
theorem BytesOf.mono {w : World} {T T' : Nat → Prop} {r : Nat} {e : RFile} (h : BytesOf w T r e) (hs : ∀ x, T x → T' x) : BytesOf w T' r e := ⟨h.1, fun g hg => ⟨hs g (h.2 g hg).1, (h.2 g hg).2⟩⟩
theorem BytesOf.turned {w w' : World} {T : Nat → Prop} {r : Nat} {e : RFile} (h : BytesOf w T r e) (ht : Turns (fun x => x = r) w w') : BytesOf w' (With T w w') r e :=
  (h.same2 ht.size fun k _ hk hl => ht.block k hl hk).mono fun _ hx => .inl hx
theorem BytesOf.later {w w' : World} {T : Nat → Prop} {r : Nat} {e : RFile} (h : BytesOf w T r e) (hb : Below w.heap.size w w') : BytesOf w' T r e :=
  h.same2 hb.size fun k _ _ hl => hb.block k hl
set_option maxRecDepth 100000 in
theorem refRename (w : World) (T : Nat → Prop) (r : Nat) (L : List Ent) (R : List RFile) (room fuse : Int) (down : Bool) (s t : ByteArray) (hts : t.size ≤ maxLen) (h : RefAt w T r R room fuse down) (hl : Like L R) (hcap : Caps R) (ha : Apart (L.map pE)) (hrs : Rising R) (hf : -1 ≤ fuse) (hf2 : fuse < 2 ^ 63) (hn : R.length ≤ 1000000000000) :
    Calls Try.prog 52 #[.pointer (some ⟨r, 0, none⟩), .string s, .string t] w fun e w' => e = .returned (.int .i64 (renE L fuse down s t)) ∧ RefIs w w' T r (renL L fuse down s t) room (renF L fuse down s t) (renD L fuse down s t) := by
  obtain ⟨h1, h2⟩ := there_like hl ha down s
  have HCAP := Lib.hid hcap
  clear hcap
  have HH := Lib.hid h
  have HL := Lib.hid hl
  have HA := Lib.hid ha
  have HN := Lib.hid hn
  have HF := Lib.hid hf
  have HF2 := Lib.hid hf2
  have HRS := Lib.hid hrs
  have HTS := Lib.hid hts
  clear h hl ha hn hf hf2 hrs hts
  obtain ⟨tt, htt⟩ : ∃ tt, thereI R down s = tt := ⟨_, rfl⟩
  obtain ⟨t1, t2⟩ := tt
  rw [htt] at h1 h2
  simp only at h1 h2
  have HTT := Lib.hid htt
  have H1 := Lib.hid h1
  clear htt h1
  by_cases hz : t2 = 0
  · subst hz
    obtain ⟨rfl, k, x, e, hk1, hx, hxn, hlk, hpe, hge⟩ := h2 rfl
    subst hk1
    clear h2
    have HX := Lib.hid hx
    have HXN := Lib.hid hxn
    have HLK := Lib.hid hlk
    have HPE := Lib.hid hpe
    clear hx hxn hlk hpe hge
    cases hnm : nameB t.data.toList with
    | false =>
      have hce : renE L fuse false s t = 1 := by simp [renE, ← H1.out, hnm]
      have hcf : renF L fuse false s t = fuse := by simp [renF, hnm]
      have hcd : renD L fuse false s t = false := by simp [renD, hnm]
      have hcl : renL L fuse false s t = L := by simp [renL, hce]
      rw [hce, hcf, hcd, hcl]
      clear hce hcf hcd hcl
      go_enter Try.func52, Try.ntmps52
      go_wp2_with fail
      refine (refThere w T r R room fuse false s HH.out HN.out).mono ?_
      rw [HTT.out]
      rintro e1 w1 ⟨rfl, rfl⟩
      go_wp2_with fail
      refine (rname t w HTS.out).mono ?_
      rintro e1 w1 ⟨rfl, rfl⟩
      go_wp2_with fail
      go_ret
      exact ⟨rfl, RefIs.same HH.out HL.out HCAP.out⟩
    | true =>
      have HNM := Lib.hid hnm
      have hce : renE L fuse false s t = opE fuse := by simp [renE, ← H1.out, hnm]
      have hcf : renF L fuse false s t = opF fuse := by simp [renF, ← H1.out, hnm]
      have hcd : renD L fuse false s t = opD fuse false := by simp [renD, ← H1.out, hnm]
      rw [hce, hcf, hcd]
      have HCE := Lib.hid hce
      clear hce hcf hcd
      go_enter Try.func52, Try.ntmps52
      go_wp2_with fail
      refine (refThere w T r R room fuse false s HH.out HN.out).mono ?_
      rw [HTT.out]
      rintro e1 w1 ⟨rfl, rfl⟩
      go_wp2_with fail
      refine (rname t w HTS.out).mono ?_
      rintro e1 w1 ⟨rfl, rfl⟩
      clear hnm
      have hnm := HNM.out
      go_wp2_with fail
      clear hnm
      refine (refOperation w T r R room fuse false HH.out HF.out HF2.out).mono ?_
      rintro e1 w1 ⟨rfl, ho1, hr1⟩
      have HO1 := Lib.hid ho1
      have HR1 := Lib.hid hr1
      clear ho1 hr1
      by_cases h0 : opE fuse = 0
      · rw [h0]
        have HC := Lib.hid (HCE.out.trans h0)
        have HZ := Lib.hid h0
        clear h0
        by_cases hst : s = t
        · subst hst
          have hq : (s.toList == s.toList) = true := by simp
          go_wp2_with fail
          go_ret
          refine ⟨by rw [HZ.out]; rfl, ?_⟩
          have hcl : Like (renL L fuse false s s) R := by
            simp only [renL, HC.out, if_true, HLK.out]
            have l1 := like_drop HL.out HA.out HX.out HXN.out
            obtain ⟨p1, p2, p3⟩ := erase_place HRS.out HX.out
            rw [HXN.out] at p1 p3
            have l2 := like_drop_none (s := s) l1 p3
            have l3 := like_ins (e := ⟨s, e.f, e.v, e.bs, e.syn⟩) (y := x) (k := k) l2 (by rw [HXN.out]; exact p1) (by rw [HXN.out]; exact p3) (by
              have h5 := HPE.out
              simp only [pE, pR] at h5 ⊢
              rw [← HXN.out]
              injection h5 with _ h6 h7
              rw [h6, h7])
            rw [p2] at l3
            exact l3
          exact HO1.out.ref HR1.out hcl HCAP.out
        · have hq : (s.toList == t.toList) = false := by
            rw [ByteArray.toList_eq, ByteArray.toList_eq, beq_eq_false_iff_ne]
            intro h
            exact hst (ByteArray.ext (by simpa using h))
          have HST := Lib.hid hst
          clear hst
          obtain ⟨hxv1, hxv2⟩ := HR1.out.bytes x (List.mem_of_getElem? HX.out)
          have HBX := Lib.hid (show BytesOf w1 T r ⟨t, x.v, x.bs, x.syn⟩ from ⟨hxv1, hxv2⟩)
          obtain ⟨va, vc, hv⟩ : ∃ a c, x.v = .slice a x.bs.length c := by
            rcases hxv1 with ⟨h1, h2⟩ | ⟨ad, c, h1, _⟩
            · exact ⟨none, 0, by rw [h1, h2]; rfl⟩
            · exact ⟨_, c, h1⟩
          have HV := Lib.hid hv
          clear hxv1 hxv2 hv
          go_wp2_with fail
          refine (refTake w1 T r R room (opF fuse) (opD fuse false) k x HR1.out HX.out HN.out).mono ?_
          rintro e2 w2 ⟨he2, ht2, hr2⟩
          rw [HV.out] at he2
          subst he2
          have HT2 := Lib.hid ht2
          have HR2 := Lib.hid hr2
          clear ht2 hr2
          go_wp2_with fail
          have hlen : (R.eraseIdx k).length ≤ 1000000000000 := Nat.le_trans (List.length_eraseIdx_le _ _) HN.out
          have HLEN := Lib.hid hlen
          clear hlen
          refine (refFind _ (With T w1 w2) r (R.eraseIdx k) room (opF fuse) (opD fuse false) t (by exact HR2.out.later ((Below.refl _ _).alloc (Nat.le_refl _) _)) HLEN.out).mono ?_
          rintro e3 w3 ⟨rfl, hw3⟩
          obtain ⟨B, hB⟩ : ∃ B, w2.heap.size = B := ⟨_, rfl⟩
          rw [hB]
          have hb3 : Below w2.heap.size w2 w3 := by rw [← hw3]; exact (Below.refl _ _).alloc (Nat.le_refl _) _
          have n3 : w3.heap[B]? = some (.cells #[.string t, .slice va x.bs.length vc, .int .i64 x.syn] 106 (0, 0)) := by rw [← hw3, ← hB]; exact heap_alloc_new w2 _
          have HR3 := Lib.hid (HR2.out.later hb3)
          have HB3 := Lib.hid hb3
          have HN3 := Lib.hid n3
          have HBB := Lib.hid hB
          have hbx : BytesOf w3 (With T w1 w2) r ⟨t, .slice va x.bs.length vc, x.bs, x.syn⟩ := by
            have h7 := (HBX.out.turned HT2.out).later hb3
            rw [HV.out] at h7
            exact h7
          have HBX3 := Lib.hid hbx
          have HRB := Lib.hid (show r ≠ B from fun e => by
            obtain ⟨fv, fz, hb, _⟩ := HR2.out.blk
            have := heap_lt hb
            omega)
          clear hb3 n3 hB hbx hw3
          have l1 := like_drop HL.out HA.out HX.out HXN.out
          have a1 := apart_drop HA.out s
          have hsz2 : w1.heap.size ≤ w2.heap.size := HT2.out.size
          have hsz3 : w2.heap.size ≤ w3.heap.size := HB3.out.size
          have hsz1 : w1.heap.size = w.heap.size := HO1.out.sized
          have HSZ := Lib.hid (And.intro hsz1 (And.intro hsz2 hsz3))
          have hT3 : Turns T w w3 := (((HO1.out.turns HH.out.here).trans HT2.out (fun _ hx => .inl (hx ▸ HH.out.here))).trans (Turns.of_below (S := fun _ => False) HB3.out) (fun _ hx => hx.elim))
          have HT3 := Lib.hid hT3
          have hfp : pE ⟨t, e.f, e.v, e.bs, e.syn⟩ = pR ⟨t, .slice va x.bs.length vc, x.bs, x.syn⟩ := by
            have h5 := HPE.out
            simp only [pE, pR] at h5 ⊢
            injection h5 with _ h6 h7
            rw [h6, h7]
          have HFP := Lib.hid hfp
          clear hsz1 hsz2 hsz3 hT3 hfp
          rcases find_like l1 a1 t with ⟨j, x2, e2, f1, f2, _, f3, _, _⟩ | ⟨f1, _, f3⟩
          · rw [f1]
            have HL1 := Lib.hid l1
            have HA1 := Lib.hid a1
            have HX2 := Lib.hid f2
            have HXN2 := Lib.hid f3
            clear l1 a1 f1 f2 f3
            obtain ⟨v2, hv2⟩ : ∃ v2, x2.v = v2 := ⟨_, rfl⟩
            go_wp2_with fail
            refine (refTake w3 (With T w1 w2) r (R.eraseIdx k) room (opF fuse) (opD fuse false) j x2 HR3.out HX2.out HLEN.out).mono ?_
            rintro e4 w4 ⟨rfl, ht4, hr4⟩
            have n4 : w4.heap[B]? = some (.cells #[.string t, .slice va x.bs.length vc, .int .i64 x.syn] 106 (0, 0)) := (ht4.block B (heap_lt HN3.out) (fun e => HRB.out e.symm)).trans HN3.out
            have b0 : w4.cell? ⟨B, 0, none⟩ = some (.string t) := by rw [Lib.cell_of_heap n4]; rfl
            have b1 : w4.cell? ⟨B, 1, none⟩ = some (.slice va x.bs.length vc) := by rw [Lib.cell_of_heap n4]; rfl
            have b2 : w4.cell? ⟨B, 2, none⟩ = some (.int .i64 x.syn) := by rw [Lib.cell_of_heap n4]; rfl
            have HT4 := Lib.hid ht4
            have HR4 := Lib.hid hr4
            have HBX4 := Lib.hid (HBX3.out.turned ht4)
            clear ht4 hr4 n4
            go_wp2_with fail
            refine (refPut w4 (With (With T w1 w2) w3 w4) r ((R.eraseIdx k).eraseIdx j) room (opF fuse) (opD fuse false) ⟨t, .slice va x.bs.length vc, x.bs, x.syn⟩ HR4.out HBX4.out (Nat.le_trans (List.length_eraseIdx_le _ _) HLEN.out)).mono ?_
            rintro e5 w5 ⟨q, rfl, hp5, ht5, hr5⟩
            have HT5 := Lib.hid ht5
            have HR5 := Lib.hid hr5
            have HP5 := Lib.hid hp5
            clear ht5 hr5 hp5 b0 b1 b2
            go_wp2_with fail
            go_ret
            refine ⟨by rw [HZ.out]; rfl, _, ?_, ?_, ((HCAP.out.erase k).erase j).ins q (by have h8 := HCAP.out.at_ HX.out; rw [HV.out] at h8; exact h8), HR5.out.more fun z hz => ?_⟩
            · simp only [renL, HC.out, if_true, HLK.out]
              have l2 := like_drop HL1.out HA1.out HX2.out HXN2.out
              refine like_ins (y := ⟨t, .slice va x.bs.length vc, x.bs, x.syn⟩) l2 HP5.out ?_ HFP.out
              intro z hz e
              have ap : Apart (((R.eraseIdx k)).map pR) := by rw [← HL1.out]; exact HA1.out
              have hz' := List.mem_of_mem_eraseIdx hz
              obtain ⟨i, hi, hzi⟩ := List.getElem_of_mem hz
              rw [List.getElem_eraseIdx] at hzi
              have hx2 : ((R.eraseIdx k).map pR)[j]? = some (pR x2) := by rw [List.getElem?_map, HX2.out]; rfl
              by_cases hij : i < j
              · rw [dif_pos hij] at hzi
                have hzz : ((R.eraseIdx k).map pR)[i]? = some (pR z) := by rw [List.getElem?_map, List.getElem?_eq_getElem (by rw [List.length_eraseIdx] at hi; split at hi <;> omega), hzi]; rfl
                have := apart_at ap hzz hx2 (by show z.name = x2.name; rw [e]; exact HXN2.out.symm)
                omega
              · rw [dif_neg hij] at hzi
                have hzz : ((R.eraseIdx k).map pR)[i + 1]? = some (pR z) := by rw [List.getElem?_map, List.getElem?_eq_getElem (by rw [List.length_eraseIdx] at hi; split at hi <;> omega), hzi]; rfl
                have := apart_at ap hzz hx2 (by show z.name = x2.name; rw [e]; exact HXN2.out.symm)
                omega
            · refine (HT3.out.trans HT4.out (fun z hz => .inl (hz ▸ HH.out.here))).trans HT5.out (fun z hz => .inl (hz ▸ HH.out.here))
            · obtain ⟨z1, z2, z3⟩ := HSZ.out
              have z4 := HT4.out.size
              have z5 := HT5.out.size
              rcases hz with ((hz | hz) | hz) | hz
              · exact .inl hz
              · exact .inr ⟨by omega, by omega⟩
              · exact .inr ⟨by omega, by omega⟩
              · exact .inr ⟨by omega, by omega⟩
          · rw [f1]
            have HL1 := Lib.hid l1
            have HF3 := Lib.hid f3
            clear l1 a1 f1 f3
            have n3 := HN3.out
            have b0 : w3.cell? ⟨B, 0, none⟩ = some (.string t) := by rw [Lib.cell_of_heap n3]; rfl
            have b1 : w3.cell? ⟨B, 1, none⟩ = some (.slice va x.bs.length vc) := by rw [Lib.cell_of_heap n3]; rfl
            have b2 : w3.cell? ⟨B, 2, none⟩ = some (.int .i64 x.syn) := by rw [Lib.cell_of_heap n3]; rfl
            clear n3
            go_wp2_with fail
            refine (refPut w3 (With T w1 w2) r (R.eraseIdx k) room (opF fuse) (opD fuse false) ⟨t, .slice va x.bs.length vc, x.bs, x.syn⟩ HR3.out HBX3.out HLEN.out).mono ?_
            rintro e5 w5 ⟨q, rfl, hp5, ht5, hr5⟩
            have HT5 := Lib.hid ht5
            have HR5 := Lib.hid hr5
            have HP5 := Lib.hid hp5
            clear ht5 hr5 hp5 b0 b1 b2
            go_wp2_with fail
            go_ret
            refine ⟨by rw [HZ.out]; rfl, _, ?_, ?_, (HCAP.out.erase k).ins q (by have h8 := HCAP.out.at_ HX.out; rw [HV.out] at h8; exact h8), HR5.out.more fun z hz => ?_⟩
            · simp only [renL, HC.out, if_true, HLK.out]
              have l2 := like_drop_none HL1.out HF3.out
              exact like_ins (y := ⟨t, .slice va x.bs.length vc, x.bs, x.syn⟩) l2 HP5.out HF3.out HFP.out
            · exact HT3.out.trans HT5.out (fun z hz => .inl (hz ▸ HH.out.here))
            · obtain ⟨z1, z2, z3⟩ := HSZ.out
              have z5 := HT5.out.size
              rcases hz with (hz | hz) | hz
              · exact .inl hz
              · exact .inr ⟨by omega, by omega⟩
              · exact .inr ⟨by omega, by omega⟩
      · have hb : (opE fuse == 0) = false := by simp [h0]
        have hb2 : (opE fuse != 0) = true := by simp [h0]
        have hsl : renL L fuse false s t = L := by
          have := HCE.out
          simp [renL, this, h0]
        have HSL := Lib.hid hsl
        clear h0 hsl
        go_wp2_with fail
        go_ret
        refine ⟨rfl, ?_⟩
        rw [HSL.out]
        exact HO1.out.ref HR1.out HL.out HCAP.out
  · have hb : (t2 == 0) = false := by simp [hz]
    have hb2 : (t2 != 0) = true := by simp [hz]
    have hg : ¬ (getE L down s).2 = 0 := by rw [← H1.out]; exact hz
    have hce : renE L fuse down s t = t2 := by simp only [renE, if_neg hg]; exact H1.out.symm
    have hcf : renF L fuse down s t = fuse := by simp [renF, hg]
    have hcd : renD L fuse down s t = down := by simp [renD, hg]
    have hsl : renL L fuse down s t = L := by simp [renL, hce, hz]
    rw [hsl, hce, hcf, hcd]
    clear hce hcf hcd hsl hg h2 hz
    go_enter Try.func52, Try.ntmps52
    go_wp2_with fail
    refine (refThere w T r R room fuse down s HH.out HN.out).mono ?_
    rw [HTT.out]
    rintro e1 w1 ⟨rfl, rfl⟩
    go_wp2_with fail
    go_ret
    exact ⟨rfl, RefIs.same HH.out HL.out HCAP.out⟩
end Go.Proofs.Ytjkgcpbgacdgaaa
