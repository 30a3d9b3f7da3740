/- Reading a line by the reference: the walk. Conditions: the text's length; the reader of values. -/
import Derived.Test.YtagiddbfhlokcaaGreatDoorBBB
namespace Go.Proofs.YtagiddbfhlokcaaGreatDoor.Ser
open Go.RowKit Go.Sort
set_option maxRecDepth 100000
def InQT (V : List UInt8 → Value × Int) (now : Int) (l : List UInt8) (R : LR) (w : World) (i : Value) (wr : World) : Prop :=
  ∃ (name : ByteArray) (tags : List Tg) (v : Value) (p n : Nat), i = .int .i64 p ∧ p ≤ l.length ∧ l.length - p ≤ n ∧ tags.length + (l.length - p) ≤ l.length ∧ QMem name tags [] v (.slice none 0 0) 0 w wr ∧ Okay l.length name tags [] ∧ R = nextQ V now l.length name tags n (l.drop p)
def InQF (V : List UInt8 → Value × Int) (now : Int) (l : List UInt8) (name : ByteArray) (tags : List Tg) (v : Value) (R : LR) (w : World) (i : Value) (wr : World) : Prop :=
  ∃ (fields : List Fd) (vf : Value) (p n : Nat), i = .int .i64 p ∧ p < l.length ∧ l.length - p ≤ n ∧ fields.length + (l.length - p) ≤ l.length ∧ QMem name tags fields v vf 0 w wr ∧ Okay l.length name tags fields ∧ R = finP name tags (fieldsP V now n fields (l.drop (p + 1)))
set_option maxHeartbeats 16000000 in
theorem parse14 {V : List UInt8 → Value × Int} (now : Int) (l : List UInt8) (hl : l.length ≤ 1073741824) (w : World) (HV : RReaders V w) : Calls Tryz.prog 14 #[.string (bs l), .int .i64 now] w (RowPost (lineP V now l) w) := by
  obtain ⟨R, hR⟩ : ∃ R, lineP V now l = R := ⟨_, rfl⟩
  rw [hR]
  have HR := Lib.hid hR.symm
  have HVV := Lib.hid HV
  have HSZ := Lib.hid (bs_size l)
  have M33 := Lib.hid (fun w => part33 l 0 w (by omega) (Nat.zero_le _))
  clear hR HV
  go_enter Tryz.func14, Tryz.ntmps14
  go_upto_region 3 with (fail)
  refine wp_gen (fun wx => QMem ⟨#[]⟩ [] [] (.slice none 0 0) (.slice none 0 0) 0 w wx) (start14 w) ?_
  intro w0 hm0
  have HM0 := Lib.hid hm0
  clear hm0
  go_wp2_with fail
  refine (M33.out _).mono ?_
  rintro e w1 ⟨hb1, n, z, ok, rfl, hy, hn⟩
  have hm1 := HM0.out.later hb1
  have HM1 := Lib.hid hm1
  obtain ⟨q0, q1, q2, q3, _⟩ := zcells hm1.non
  obtain ⟨_, _, _, _, z0, z1, z2, z3⟩ := zcells hm1.res
  obtain ⟨o0, o1, o2, o3, _⟩ := zcells hm1.res
  clear hb1 hm1
  cases ok with
  | false =>
    have HP : Hid (R = (2, none)) := Lib.hid (by rw [HR.out]; exact lp_none (hn rfl))
    clear hy hn
    go_wp2_with fail
    exact bodyPost_ret (results14 rfl (four _ _ _ _ HM1.out.res)) rfl (HM1.out.wrong HP.out)
  | true =>
    obtain ⟨nb, r, hs, rfl, rfl⟩ := hy rfl
    have hsl := scan_len _ (Nat.le_refl _) hs
    obtain ⟨hr1, _, hr3⟩ := scan_rest (Nat.zero_le _) hs
    obtain ⟨q, hq⟩ : ∃ q, l.length - r.length = q := ⟨_, rfl⟩
    rw [hq] at hr1 ⊢
    have hs0 : scan [] l = some (nb, r) := hs
    have HS := Lib.hid hs0
    obtain ⟨bn, hbn⟩ : ∃ b, nameB nb = b := ⟨_, rfl⟩
    have M34 := Lib.hid (fun w => rname_is (b := bn) (ofL nb) w (by rw [ofL_size]; unfold maxLen; simp at hsl; omega) (by simpa [ofL] using hbn))
    have HBN := Lib.hid hbn
    have HR1 := Lib.hid hr1
    have hql : q ≤ l.length := by omega
    clear hy hn hs hs0 hbn hr1 hsl hq hr3
    cases bn with
    | false =>
      have HP : Hid (R = (2, none)) := Lib.hid (by rw [HR.out]; exact lp_bad HS.out HBN.out)
      go_wp2_with fail
      refine (M34.out _).mono ?_
      rintro e w2 ⟨rfl, hb2⟩
      have hm2 := HM1.out.later hb2
      have HM2 := Lib.hid hm2
      clear q0 q1 q2 q3 z0 z1 z2 z3 o0 o1 o2 o3
      obtain ⟨q0, q1, q2, q3, _⟩ := zcells hm2.non
      obtain ⟨o0, o1, o2, o3, z0, z1, z2, z3⟩ := zcells hm2.res
      clear hb2 hm2
      go_wp2_with fail
      exact bodyPost_ret (results14 rfl (four _ _ _ _ HM2.out.res)) rfl (HM2.out.wrong HP.out)
    | true =>
      have HP : Hid (R = nextQ V now l.length (ofL nb) [] l.length (l.drop q)) := Lib.hid (by rw [HR.out, lp_ok HS.out HBN.out, nextN_Q, ← HR1.out])
      go_wp2_with fail
      refine (M34.out _).mono ?_
      rintro e w2 ⟨rfl, hb2⟩
      have hm2 := HM1.out.later hb2
      have HM2 := Lib.hid hm2
      clear q0 q1 q2 q3 z0 z1 z2 z3 o0 o1 o2 o3
      obtain ⟨d0, d1, d2, d3⟩ := hm2.cells
      obtain ⟨z0, z1, z2, z3⟩ := hm2.frees
      clear hb2 hm2
      go_wp2_with fail
      have HM3 := Lib.hid (HM2.out.setName (ofL nb))
      have HOK : Hid (Okay l.length (ofL nb) [] []) := Lib.hid ⟨name_sized HBN.out, (fun p h => nomatch h), (fun p h => nomatch h), Nat.zero_le _, Nat.zero_le _⟩
      clear d0 d1 d2 d3 z0 z1 z2 z3
      go_loopw [9] (fun i wx => InQT V now l R w i wx) (fun i _ => l.length - (intOf i).toNat)
      case atStart => exact ⟨_, _, _, q, l.length, rfl, hql, by omega, by simp, HM3.out, HOK.out, HP.out⟩
      case round =>
        obtain ⟨name, tags, v, p, n, rfl, hp, hn, htl, hm, hok, hR2⟩ := hrel
        rename World => wl
        have HM := Lib.hid hm
        have HK := Lib.hid hok
        have HR2 := Lib.hid hR2
        have HN := Lib.hid hn
        have HTL := Lib.hid htl
        obtain ⟨q0, q1, q2, q3, _⟩ := zcells hm.non
        obtain ⟨o0, o1, o2, o3, z0, z1, z2, z3⟩ := zcells hm.res
        clear hm hok hR2 hn htl HM3 HM2 HM1 HM0 HP HOK
        rcases list_cases (l.drop p) with e | ⟨c, t, e⟩
        · obtain ⟨h1, h2⟩ := at_nil hp e
          have HP : Hid (R = (2, none)) := Lib.hid (by rw [HR2.out, e]; rfl)
          clear e h2
          go_wp2_with fail
          exact bodyPost_ret (results14 rfl (four _ _ _ _ HM.out.res)) rfl (HM.out.wrong HP.out)
        · obtain ⟨hlt, hg, hz, hd, hkl⟩ := at_cons e
          have HD := Lib.hid hd
          have HE := Lib.hid e
          clear hd e
          by_cases h44 : c = 44
          · have c44 : ((c.toNat : Int) == 44) = true := byte_eq c 44 (by decide) h44
            obtain ⟨n, rfl⟩ : ∃ k, n = k + 1 := ⟨n - 1, by have := HN.out; omega⟩
            have HRR : Hid (R = tagsR V now l.length name (tagsP (n + 1) tags t)) := Lib.hid (by rw [HR2.out, HE.out, nextQ, h44]; rfl)
            have M35 := Lib.hid (fun w => name35 l (p + 1) 61 w (by omega) hkl)
            clear h44
            go_wp2_with fail
            refine (M35.out _).mono ?_
            rintro e w1 ⟨hb1, nm, z, ok, rfl, hy, hn⟩
            rw [HD.out] at hy hn
            have hm1 := HM.out.later hb1
            have HM1 := Lib.hid hm1
            clear q0 q1 q2 q3 o0 o1 o2 o3 z0 z1 z2 z3 hlt hg hz c44
            obtain ⟨q0, q1, q2, q3, _⟩ := zcells hm1.non
            obtain ⟨o0, o1, o2, o3, z0, z1, z2, z3⟩ := zcells hm1.res
            clear hb1 hm1
            cases ok with
            | false =>
              have HP : Hid (R = (2, none)) := Lib.hid (by
                rw [HRR.out]
                rcases hn rfl with h | ⟨nb, r, h, hb⟩
                · rw [tp_none h]; rfl
                · rw [tp_bad h hb]; rfl)
              clear hy hn
              go_wp2_with fail
              exact bodyPost_ret (results14 rfl (four _ _ _ _ HM1.out.res)) rfl (HM1.out.wrong HP.out)
            | true =>
              obtain ⟨kb, r1, hs, hnm, hh, rfl, rfl⟩ := hy rfl
              have hsl := scan_len _ (Nat.le_refl _) hs
              obtain ⟨q, r2, hq, hpq, hql, hr1, hr2⟩ := head_split (l := l) (k0 := p + 1) (by omega) (by rw [HD.out]; exact hs) hh
              subst hr1
              rw [hq]
              have HS := Lib.hid hs
              have HNM := Lib.hid hnm
              have HSB : Hid ((nameB kb && headIs 61 (61 :: r2)) = true) := Lib.hid (by rw [hnm]; rfl)
              have HR22 := Lib.hid hr2
              have M33b := Lib.hid (fun w => part33 l (q + 1) w (by omega) (by omega))
              clear hy hn hs hnm hh hsl hq hr2
              go_wp2_with fail
              refine (M33b.out _).mono ?_
              rintro e w2 ⟨hb2, nm2, z2', ok2, rfl, hy, hn⟩
              rw [← HR22.out] at hy hn
              have hm2 := HM1.out.later hb2
              have HM2 := Lib.hid hm2
              clear q0 q1 q2 q3 o0 o1 o2 o3 z0 z1 z2 z3
              obtain ⟨q0, q1, q2, q3, _⟩ := zcells hm2.non
              obtain ⟨o0, o1, o2, o3, z0, z1, z2, z3⟩ := zcells hm2.res
              clear hb2 hm2
              cases ok2 with
              | false =>
                have HP : Hid (R = (2, none)) := Lib.hid (by rw [HRR.out, tp_vnone HS.out HSB.out (hn rfl)]; rfl)
                clear hy hn
                go_wp2_with fail
                exact bodyPost_ret (results14 rfl (four _ _ _ _ HM2.out.res)) rfl (HM2.out.wrong HP.out)
              | true =>
                obtain ⟨vb, r3, hs2, rfl, rfl⟩ := hy rfl
                have hsl := scan_len _ (Nat.le_refl _) hs2
                obtain ⟨hr3, hqq, hr3l⟩ := scan_rest (l := l) (k0 := q + 1) (by omega) (by rw [← HR22.out]; exact hs2)
                obtain ⟨q3', hq3⟩ : ∃ q3', l.length - r3.length = q3' := ⟨_, rfl⟩
                rw [hq3] at hr3 hqq ⊢
                have hq3l : q3' ≤ l.length := by omega
                have HS2 : Hid (scan [] (61 :: r2).tail = some (vb, r3)) := Lib.hid hs2
                have HR3 := Lib.hid hr3
                obtain ⟨bn, hbn⟩ : ∃ b, nameB vb = b := ⟨_, rfl⟩
                have hr2l : r2.length ≤ l.length := by rw [HR22.out, List.length_drop]; omega
                have M34b := Lib.hid (fun w => rname_is (b := bn) (ofL vb) w (by rw [ofL_size]; unfold maxLen; simp at hsl; omega) (by simpa [ofL] using hbn))
                have HBN := Lib.hid hbn
                clear hy hn hs2 hsl hr3 hq3 hbn hr3l hr2l
                cases bn with
                | false =>
                  have HP : Hid (R = (2, none)) := Lib.hid (by rw [HRR.out, tp_vbad HS.out HSB.out HS2.out HBN.out]; rfl)
                  go_wp2_with fail
                  refine (M34b.out _).mono ?_
                  rintro e w3 ⟨rfl, hb3⟩
                  have hm3 := HM2.out.later hb3
                  have HM3 := Lib.hid hm3
                  clear q0 q1 q2 q3 o0 o1 o2 o3 z0 z1 z2 z3
                  obtain ⟨q0, q1, q2, q3, _⟩ := zcells hm3.non
                  obtain ⟨o0, o1, o2, o3, z0, z1, z2, z3⟩ := zcells hm3.res
                  clear hb3 hm3
                  go_wp2_with fail
                  exact bodyPost_ret (results14 rfl (four _ _ _ _ HM3.out.res)) rfl (HM3.out.wrong HP.out)
                | true =>
                  have HP : Hid (R = nextQ V now l.length name (tags ++ [(ofL kb, ofL vb)]) n (l.drop q3')) := Lib.hid (by rw [HRR.out, tp_ok HS.out HSB.out HS2.out HBN.out, tagsR_next, HR3.out])
                  go_wp2_with fail
                  refine (M34b.out _).mono ?_
                  rintro e w3 ⟨rfl, hb3⟩
                  have hm3 := HM2.out.later hb3
                  have HM3 := Lib.hid hm3
                  clear q0 q1 q2 q3 o0 o1 o2 o3 z0 z1 z2 z3 hb3
                  obtain ⟨d0, d1, d2, d3⟩ := hm3.cells
                  obtain ⟨fa, fc, hvf⟩ := hm3.rt.slice
                  subst hvf
                  have hsz5 := hm3.size
                  obtain ⟨i0, hi, hz0, hz1, hz2⟩ := info_parts info82
                  have HI := Lib.hid hi
                  have HZ0 := Lib.hid hz0
                  have HZ1 := Lib.hid hz1
                  have HZ2 := Lib.hid hz2
                  have htl2 : tags.length < 1073741824 := by have := HTL.out; omega
                  clear hi hz0 hz1 hz2 hm3
                  go_upto_region 15 with ((at_builtin; go_must (refine wpList_append_own_at _ rfl (.tmp 83) (.tmp 87) 22 rfl (w.heap.size + 3) 82 i0 _ 2 32 Tryz.underlying22 HI.out HZ0.out HZ1.out HZ2.out rfl (by omega) _ tags.length _ rfl (World.ownsRow.alloc HM3.out.rt _) ⟨w3.heap.size, 0, none⟩ 1 1 [.string (ofL kb), .string (ofL vb)] rfl rfl (World.news_of_block (cs := #[.string (ofL kb), .string (ofL vb)]) (t := 82) (fr := (0, 0)) (heap_alloc_new w3 _)) (by simp [Value.oneCell']) (by unfold maxLen; omega) (by omega) (by simp; omega) ?_); intro vn w6 hown1 hgrow1 hnn hat; clear hnn; obtain ⟨gv, cv, rfl, _, _⟩ := hown1.form (by omega); have hg6 := HM3.out.appendT (p := (ofL kb, ofL vb)) hgrow1 hat hown1 rfl rfl; have d6 : w6.cell? ⟨w.heap.size + 1 + 1, 1, none⟩ = some (.slice fa tags.length fc) := (Lib.cell_of_heap hg6.1 1); have z6 : w6.frozen? ⟨w.heap.size + 1 + 1, 1, none⟩ = false := (Lib.frozen_of_heap hg6.1 1); have HMA := Lib.hid hg6.2; clear hown1 hgrow1 hat hg6))
                  refine wp_gen (fun wx => QMem name (tags ++ [(ofL kb, ofL vb)]) [] (.slice (some ⟨gv, 0, none⟩) (tags.length + 1) cv) (.slice none 0 0) 0 w wx) HMA.out ?_
                  clear HMA d6 z6 d0 d1 d2 d3 hsz5 HM3
                  intro w7 hm7
                  have HM7 := Lib.hid hm7
                  have HOK : Hid (Okay l.length name (tags ++ [(ofL kb, ofL vb)]) []) := Lib.hid (by
                    obtain ⟨k1, k2, k3, k4, k5⟩ := HK.out
                    refine ⟨k1, fun p hp => ?_, k3, ?_, k5⟩
                    · rcases List.mem_append.1 hp with hp | hp
                      · exact k2 p hp
                      · simp at hp
                        subst hp
                        exact ⟨name_sized HNM.out, name_sized HBN.out⟩
                    · have := HTL.out
                      simp; omega)
                  clear hm7
                  go_wp2_with fail
                  refine ⟨⟨name, _, _, q3', n, rfl, hq3l, by have := HN.out; omega, by have := HTL.out; simp; omega, HM7.out, HOK.out, HP.out⟩, ?_⟩
                  simp [intOf]; omega
          · have c44 : ((c.toNat : Int) == 44) = false := byte_ne c 44 (by decide) h44
            by_cases h32 : c = 32
            · have c32 : ((c.toNat : Int) != 32) = false := by rw [h32]; rfl
              have hdp : decide ((bs l).size ≤ p) = false := decide_eq_false (by rw [HSZ.out]; omega)
              have HP : Hid (R = finP name tags (fieldsP V now l.length [] (l.drop (p + 1)))) := Lib.hid (by rw [HR2.out, HE.out, nextQ, if_pos h32, HD.out])
              clear h32 h44
              go_wp2_with fail
              clear q0 q1 q2 q3 o0 o1 o2 o3 z0 z1 z2 z3 hlt hg hz c44 c32
              go_loopw [9] (fun i wx => InQF V now l name tags v R w i wx) (fun i _ => l.length - (intOf i).toNat)
              case atStart => exact ⟨[], _, p, l.length, rfl, hkl, by omega, by simp, HM.out, HK.out, HP.out⟩
              case round =>
                obtain ⟨fields, vf, p, n, rfl, hp, hn, htl, hm, hok, hR2⟩ := hrel
                rename World => wf
                obtain ⟨n, rfl⟩ : ∃ k, n = k + 1 := ⟨n - 1, by omega⟩
                have HM := Lib.hid hm
                have HK := Lib.hid hok
                have HRR := Lib.hid hR2
                have HN := Lib.hid hn
                have HTL := Lib.hid htl
                have M35 := Lib.hid (fun w => name35 l (p + 1) 61 w (by omega) hp)
                clear hm hok hR2 hn htl HP
                go_wp2_with fail
                refine (M35.out _).mono ?_
                rintro e w1 ⟨hb1, nm, z, ok, rfl, hy, hn⟩
                have hm1 := HM.out.later hb1
                have HM1 := Lib.hid hm1
                obtain ⟨q0, q1, q2, q3, _⟩ := zcells hm1.non
                obtain ⟨o0, o1, o2, o3, z0, z1, z2, z3⟩ := zcells hm1.res
                clear hb1 hm1
                cases ok with
                | false =>
                  have HP : Hid (R = (2, none)) := Lib.hid (by
                    rw [HRR.out]
                    rcases hn rfl with h | ⟨nb, r, h, hb⟩
                    · rw [fp_none h, finP_err (by decide)]
                    · rw [fp_bad h hb, finP_err (by decide)])
                  clear hy hn
                  go_wp2_with fail
                  exact bodyPost_ret (results14 rfl (four _ _ _ _ HM1.out.res)) rfl (HM1.out.wrong HP.out)
                | true =>
                  obtain ⟨kb, r1, hs, hnm, hh, rfl, rfl⟩ := hy rfl
                  obtain ⟨q, r2, hq, hpq, hql, hr1, hr2⟩ := head_split (l := l) (k0 := p + 1) (by omega) hs hh
                  subst hr1
                  rw [hq]
                  have HS := Lib.hid hs
                  have HNM := Lib.hid hnm
                  have HSB : Hid ((nameB kb && headIs 61 (61 :: r2)) = true) := Lib.hid (by rw [hnm]; rfl)
                  have HR22 := Lib.hid hr2
                  have M36 := Lib.hid (fun w => vend36 l (q + 1) (by omega) (by omega) w)
                  clear hy hn hs hnm hh hq hr2
                  go_wp2_with fail
                  refine (M36.out _).mono ?_
                  rintro e w2 ⟨rfl, hve⟩
                  rw [← HR22.out] at hve
                  obtain ⟨ve, hvv⟩ : ∃ ve, vEnd r2 = ve := ⟨_, rfl⟩
                  rw [hvv] at hve
                  have HVE : Hid (vEnd (61 :: r2).tail = ve) := Lib.hid hvv
                  cases ve with
                  | none =>
                    obtain ⟨zz, rfl⟩ := hve
                    have HP : Hid (R = (2, none)) := Lib.hid (by rw [HRR.out, fp_noend HS.out HSB.out HVE.out, finP_err (by decide)])
                    clear hvv
                    go_wp2_with fail
                    exact bodyPost_ret (results14 rfl (four _ _ _ _ HM1.out.res)) rfl (HM1.out.wrong HP.out)
                  | some m =>
                    simp only at hve
                    subst hve
                    have hm2 : m ≤ r2.length := vEnd_le hvv
                    rw [HR22.out, List.length_drop] at hm2
                    obtain ⟨z, hz⟩ : ∃ z, q + 1 + m = z := ⟨_, rfl⟩
                    rw [hz]
                    have hz1 : (q : Int) + 1 ≤ (z : Int) := by omega
                    have hz2 : (z : Int) ≤ ((bs l).size : Int) := by rw [HSZ.out]; omega
                    have hzl : z ≤ l.length := by omega
                    have hpz : p < z := by omega
                    obtain ⟨vk, vb, vt, er, hval, hvb⟩ := HVV.out.f (r2.take m)
                    have hext : bs (r2.take m) = (bs l).extract (q + 1) z := by rw [← hz, mid_bs, ← HR22.out]
                    have M21 := Lib.hid (HVV.out.v (r2.take m) (by rw [List.length_take, HR22.out, List.length_drop]; omega) w1 HM1.out.bel)
                    rw [hval, hext] at M21
                    unfold val at M21
                    simp only at M21
                    have HVAL : Hid (V ((61 :: r2).tail.take m) = (val vk vb vt, er)) := Lib.hid hval
                    have HVB := Lib.hid hvb
                    have HRD : Hid ((61 :: r2).tail.drop m = l.drop z) := Lib.hid (by rw [List.tail_cons, HR22.out, List.drop_drop, hz])
                    clear hval hvb hvv hext hz hm2 q0 q1 q2 q3 o0 o1 o2 o3 z0 z1 z2 z3
                    go_wp2_with fail
                    refine M21.out.mono ?_
                    rintro e w4 ⟨rfl, hb4⟩
                    have hm4 := HM1.out.later hb4
                    have HM4 := Lib.hid hm4
                    clear hb4 hm4
                    go_upto_region 25 with (fail)
                    refine wp_gen (fun wx => QMem name tags fields v vf 0 w wx ∧ wx.heap[w4.heap.size]? = some (.cells #[.int .i64 vk, .int .u64 vb, .string vt] 53 (0, 0))) ⟨HM4.out.later ((Below.refl _ _).alloc (Nat.le_refl _) _), newest _ _⟩ ?_
                    rintro w5 ⟨hm5, hg5⟩
                    have HM5 := Lib.hid hm5
                    have v0 : w5.cell? ⟨w4.heap.size, 0, none⟩ = some (.int .i64 vk) := Lib.cell_of_heap hg5 0
                    have v1 : w5.cell? ⟨w4.heap.size, 1, none⟩ = some (.int .u64 vb) := Lib.cell_of_heap hg5 1
                    have v2 : w5.cell? ⟨w4.heap.size, 2, none⟩ = some (.string vt) := Lib.cell_of_heap hg5 2
                    obtain ⟨q0, q1, q2, q3, _⟩ := zcells hm5.non
                    obtain ⟨o0, o1, o2, o3, z0, z1, z2, z3⟩ := zcells hm5.res
                    by_cases her : er = 0
                    · subst her
                      clear q0 q1 q2 q3 o0 o1 o2 o3 z0 z1 z2 z3
                      have HRN : Hid (R = finP name tags (nextP V now n fields (fields ++ [(ofL kb, vk, vb, vt)]) (l.drop z))) := Lib.hid (by
                        rw [HRR.out, fp_ok HS.out HSB.out HVE.out (by rw [HVAL.out]), HVAL.out, valF_val, HRD.out])
                      obtain ⟨d0, d1, d2, d3⟩ := hm5.cells
                      obtain ⟨fa, fc, hvf⟩ := hm5.rf.slice
                      subst hvf
                      have hsz5 := hm5.size
                      obtain ⟨i0, hi, hz0, hz1', hz2'⟩ := info_parts info64
                      have HI := Lib.hid hi
                      have HZ0 := Lib.hid hz0
                      have HZ1 := Lib.hid hz1'
                      have HZ2 := Lib.hid hz2'
                      have htl2 : fields.length < 1073741824 := by have := HTL.out; omega
                      clear hi hz0 hz1' hz2' hm5 hg5
                      go_upto_region 28 with ((at_builtin; go_must (refine wpList_append_own_at _ rfl (.tmp 138) (.tmp 142) 25 rfl (w.heap.size + 3) 64 i0 _ 4 48 Tryz.underlying25 HI.out HZ0.out HZ1.out HZ2.out rfl (by omega) _ fields.length _ rfl (World.ownsRow.alloc HM5.out.rf _) ⟨w5.heap.size, 0, none⟩ 1 1 [.string (ofL kb), .int .i64 vk, .int .u64 vb, .string vt] rfl rfl (World.news_of_block (cs := #[.string (ofL kb), .int .i64 vk, .int .u64 vb, .string vt]) (t := 64) (fr := (0, 0)) (heap_alloc_new w5 _)) (by simp [Value.oneCell']) (by unfold maxLen; omega) (by omega) (by simp; omega) ?_); intro vn w6 hown1 hgrow1 hnn hat; clear hnn; obtain ⟨gv, cv, rfl, _, _⟩ := hown1.form (by omega); have hg6 := HM5.out.appendF (p := (ofL kb, vk, vb, vt)) hgrow1 hat hown1 rfl rfl; have d6 : w6.cell? ⟨w.heap.size + 1 + 1, 2, none⟩ = some (.slice fa fields.length fc) := (Lib.cell_of_heap hg6.1 2); have z6 : w6.frozen? ⟨w.heap.size + 1 + 1, 2, none⟩ = false := (Lib.frozen_of_heap hg6.1 2); have HMA := Lib.hid hg6.2; clear hown1 hgrow1 hat hg6))
                      refine wp_gen (fun wx => QMem name tags (fields ++ [(ofL kb, vk, vb, vt)]) v (.slice (some ⟨gv, 0, none⟩) (fields.length + 1) cv) 0 w wx) HMA.out ?_
                      clear HMA d6 z6 d0 d1 d2 d3 v0 v1 v2 hsz5 HM5
                      intro w7 hm7
                      have HM7 := Lib.hid hm7
                      have HOK : Hid (Okay l.length name tags (fields ++ [(ofL kb, vk, vb, vt)])) := Lib.hid (by
                        obtain ⟨k1, k2, k3, k4, k5⟩ := HK.out
                        refine ⟨k1, k2, fun p hp => ?_, k4, ?_⟩
                        · rcases List.mem_append.1 hp with hp | hp
                          · exact k3 p hp
                          · simp at hp
                            subst hp
                            exact ⟨name_sized HNM.out, HVB.out⟩
                        · have := HTL.out
                          simp; omega)
                      clear hz1 hz2
                      rcases list_cases (l.drop z) with e | ⟨c, t, e⟩
                      · obtain ⟨h1, h2⟩ := at_nil hzl e
                        have HP : Hid (finP name tags (0, fields ++ [(ofL kb, vk, vb, vt)], now) = R) := Lib.hid (by rw [HRN.out, e]; rfl)
                        obtain ⟨d0, d1, d2, d3⟩ := hm7.cells
                        obtain ⟨z0, z1, z2, z3⟩ := hm7.frees
                        clear e h2 hm7
                        go_upto_region 31 with (fail)
                        refine wp_gen (fun wx => QMem name tags (fields ++ [(ofL kb, vk, vb, vt)]) v (.slice (some ⟨gv, 0, none⟩) (fields.length + 1) cv) now w wx) (HM7.out.setTime now) ?_
                        clear d0 d1 d2 d3 z0 z1 z2 z3
                        intro w8 hm8
                        have HM8 := Lib.hid hm8
                        obtain ⟨d0, d1, d2, d3⟩ := hm8.cells
                        have M38 := Lib.hid (sorted38 hl (w.heap.size + 3) name tags (fields ++ [(ofL kb, vk, vb, vt)]) v _ now w8 (by have := hm8.size; omega) hm8.rt hm8.rf hm8.ap HOK.out)
                        rw [HP.out] at M38
                        clear hm8
                        go_wp2_with fail
                        refine M38.out.mono ?_
                        intro e w9 hp9
                        obtain ⟨xa, x1, x2, x3, x4, x5, x6, xd, xe, rfl, hr9, hpost⟩ := HM8.out.fin hp9
                        have HR9 := Lib.hid hr9
                        have HPO := Lib.hid hpost
                        obtain ⟨o0, o1, o2, o3, z0, z1, z2, z3⟩ := zcells hr9
                        clear hp9 hr9 hpost
                        go_wp2_with fail
                        refine bodyPost_ret (results14 rfl (four _ _ _ _ HR9.out)) rfl ?_
                        exact HPO.out
                      · obtain ⟨hlt, hg, hz, hd, hkl⟩ := at_cons e
                        have HD := Lib.hid hd
                        have HE := Lib.hid e
                        clear hd e
                        by_cases h44 : c = 44
                        · have c44 : ((c.toNat : Int) != 44) = false := by rw [h44]; rfl
                          have HP : Hid (R = finP name tags (fieldsP V now n (fields ++ [(ofL kb, vk, vb, vt)]) (l.drop (z + 1)))) := Lib.hid (by rw [HRN.out, HE.out, nextP, if_pos h44, HD.out])
                          clear h44 hm7
                          go_wp2_with fail
                          go_roundw
                          case rel =>
                            exact ⟨_, _, z, n, rfl, hkl, by have := HN.out; omega, by have := HTL.out; simp; omega, HM7.out, HOK.out, HP.out⟩
                          case measure => simp [intOf]; omega
                        · have c44 : ((c.toNat : Int) != 44) = true := byte_bne c 44 (by decide) h44
                          obtain ⟨d0, d1, d2, d3⟩ := hm7.cells
                          obtain ⟨z0, z1, z2, z3⟩ := hm7.frees
                          have HC44 := Lib.hid h44
                          clear hm7 h44
                          by_cases h32 : c = 32
                          · have c32 : ((c.toNat : Int) != 32) = false := by rw [h32]; rfl
                            have HP : Hid (R = finP name tags ((PF.intP t).2, fields ++ [(ofL kb, vk, vb, vt)], (PF.intP t).1)) := Lib.hid (by rw [HRN.out, HE.out, nextP, if_neg HC44.out, if_pos h32])
                            clear h32
                            go_upto_region 31 with (fail)
                            refine wp_gen (fun wx => QMem name tags (fields ++ [(ofL kb, vk, vb, vt)]) v (.slice (some ⟨gv, 0, none⟩) (fields.length + 1) cv) now w wx) (HM7.out.setTime now) ?_
                            clear d0 d1 d2 d3 z0 z1 z2 z3
                            intro w7' hm7'
                            have HM7' := Lib.hid hm7'
                            obtain ⟨q0, q1, q2, q3, _⟩ := zcells hm7'.non
                            obtain ⟨o0, o1, o2, o3, z0, z1, z2, z3⟩ := zcells hm7'.res
                            obtain ⟨x, hx⟩ : ∃ x, PF.intP t = x := ⟨_, rfl⟩
                            have hext : bs t = (bs l).extract (z + 1) (bs l).size := by rw [drop_bs, HD.out]
                            have M37 := Lib.hid (int37 t (by rw [← HD.out, List.length_drop]; omega) w7')
                            rw [hx, hext] at M37
                            rw [hx] at HP
                            obtain ⟨tv, er⟩ := x
                            simp only at M37 HP
                            have hz3 : (z : Int) + 1 ≤ ((bs l).size : Int) := by rw [HSZ.out]; omega
                            clear hx hext hm7'
                            by_cases her : er = 0
                            · subst her
                              have HP2 : Hid (finP name tags (0, fields ++ [(ofL kb, vk, vb, vt)], tv) = R) := Lib.hid HP.out.symm
                              clear q0 q1 q2 q3 o0 o1 o2 o3 z0 z1 z2 z3
                              go_wp2_with fail
                              refine M37.out.mono ?_
                              rintro e wz ⟨rfl, hw⟩
                              obtain rfl := hw.symm
                              obtain ⟨d0, d1, d2, d3⟩ := HM7'.out.cells
                              obtain ⟨z0, z1, z2, z3⟩ := HM7'.out.frees
                              clear hw
                              go_upto_region 38 with (fail)
                              refine wp_gen (fun wx => QMem name tags (fields ++ [(ofL kb, vk, vb, vt)]) v (.slice (some ⟨gv, 0, none⟩) (fields.length + 1) cv) tv w wx) (HM7'.out.setTime tv) ?_
                              clear d0 d1 d2 d3 z0 z1 z2 z3
                              intro w8 hm8
                              have HM8 := Lib.hid hm8
                              obtain ⟨d0, d1, d2, d3⟩ := hm8.cells
                              have M38 := Lib.hid (sorted38 hl (w.heap.size + 3) name tags (fields ++ [(ofL kb, vk, vb, vt)]) v _ tv w8 (by have := hm8.size; omega) hm8.rt hm8.rf hm8.ap HOK.out)
                              rw [HP2.out] at M38
                              clear hm8
                              go_wp2_with fail
                              refine M38.out.mono ?_
                              intro e w9 hp9
                              obtain ⟨xa, x1, x2, x3, x4, x5, x6, xd, xe, rfl, hr9, hpost⟩ := HM8.out.fin hp9
                              have HR9 := Lib.hid hr9
                              have HPO := Lib.hid hpost
                              obtain ⟨o0, o1, o2, o3, z0, z1, z2, z3⟩ := zcells hr9
                              clear hp9 hr9 hpost
                              go_wp2_with fail
                              refine bodyPost_ret (results14 rfl (four _ _ _ _ HR9.out)) rfl ?_
                              exact HPO.out
                            · have hern : (er != 0) = true := by simpa using her
                              have HP2 : Hid (R = (er, none)) := Lib.hid (by rw [HP.out]; exact finP_err her)
                              clear her
                              go_wp2_with fail
                              refine M37.out.mono ?_
                              rintro e wz ⟨rfl, hw⟩
                              obtain rfl := hw.symm
                              clear hw
                              go_wp2_with fail
                              exact bodyPost_ret (results14 rfl (four _ _ _ _ HM7'.out.res)) rfl (HM7'.out.wrong HP2.out)
                          · have c32 : ((c.toNat : Int) != 32) = true := byte_bne c 32 (by decide) h32
                            have HP : Hid (R = (2, none)) := Lib.hid (by rw [HRN.out, HE.out, nextP, if_neg HC44.out, if_neg h32, finP_err (by decide)])
                            clear h32
                            go_upto_region 31 with (fail)
                            refine wp_gen (fun wx => QMem name tags (fields ++ [(ofL kb, vk, vb, vt)]) v (.slice (some ⟨gv, 0, none⟩) (fields.length + 1) cv) now w wx) (HM7.out.setTime now) ?_
                            clear d0 d1 d2 d3 z0 z1 z2 z3
                            intro w8 hm8
                            have HM8 := Lib.hid hm8
                            obtain ⟨q0, q1, q2, q3, _⟩ := zcells hm8.non
                            obtain ⟨o0, o1, o2, o3, z0, z1, z2, z3⟩ := zcells hm8.res
                            clear hm8
                            go_wp2_with fail
                            exact bodyPost_ret (results14 rfl (four _ _ _ _ HM8.out.res)) rfl (HM8.out.wrong HP.out)
                    · have hern : (er != 0) = true := by simpa using her
                      have HP : Hid (R = (er, none)) := Lib.hid (by
                        have hv2 : (V ((61 :: r2).tail.take m)).2 = er := by rw [HVAL.out]
                        rw [HRR.out, fp_err HS.out HSB.out HVE.out (by rw [hv2]; exact her), hv2, finP_err her])
                      clear her hm5 hg5 v0 v1 v2
                      go_wp2_with fail
                      exact bodyPost_ret (results14 rfl (four _ _ _ _ HM5.out.res)) rfl (HM5.out.wrong HP.out)
            · have c32 : ((c.toNat : Int) != 32) = true := byte_bne c 32 (by decide) h32
              have HP : Hid (R = (2, none)) := Lib.hid (by rw [HR2.out, HE.out, nextQ, if_neg h32, if_neg h44])
              clear h32 h44
              go_wp2_with fail
              exact bodyPost_ret (results14 rfl (four _ _ _ _ HM.out.res)) rfl (HM.out.wrong HP.out)
end Go.Proofs.YtagiddbfhlokcaaGreatDoor.Ser
