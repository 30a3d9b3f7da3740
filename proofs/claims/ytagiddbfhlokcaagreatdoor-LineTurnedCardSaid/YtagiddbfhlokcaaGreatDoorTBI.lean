/- Several texts of this proof, laid together. Conditions: as each says. -/
import Derived.Test.YtagiddbfhlokcaaGreatDoorTBH
import Derived.Test.YtagiddbfhlokcaaGreatDoorTBD
import Derived.Test.YtagiddbfhlokcaaGreatDoorRows
import Derived.Lay
import Derived.MakeChecks
import Derived.Stop.LaidErr
import Derived.Lib.LaidTab
/- Reading a line by the reference: the walk. Conditions: the text's length; the reader of values. -/
namespace Go.Proofs.YtagiddbfhlokcaaGreatDoor.Ser
open Go.RowKit Go.Sort
set_option maxRecDepth 100000
def InQT (V : List UInt8 → Value × Int) (now : Int) (l : List UInt8) (R : LR) (w : World) (i : Value) (wr : World) : Prop :=
  ∃ (name : ByteArray) (tags : List Tg) (v : Value) (p n : Nat), i = .int .i64 p ∧ p ≤ l.length ∧ l.length - p ≤ n ∧ tags.length + (l.length - p) ≤ l.length ∧ QMem name tags [] v (.slice none 0 0) 0 w wr ∧ Okay l.length name tags [] ∧ R = nextQ V now l.length name tags n (l.drop p)
def InQF (V : List UInt8 → Value × Int) (now : Int) (l : List UInt8) (name : ByteArray) (tags : List Tg) (v : Value) (R : LR) (w : World) (i : Value) (wr : World) : Prop :=
  ∃ (fields : List Fd) (vf : Value) (p n : Nat), i = .int .i64 p ∧ p < l.length ∧ l.length - p ≤ n ∧ fields.length + (l.length - p) ≤ l.length ∧ QMem name tags fields v vf 0 w wr ∧ Okay l.length name tags fields ∧ R = finP name tags (fieldsP V now n fields (l.drop (p + 1)))
set_option maxHeartbeats 16000000 in
theorem parse14 {V : List UInt8 → Value × Int} (now : Int) (l : List UInt8) (hl : l.length ≤ 1073741824) (w : World) (HV : RReaders V w) : Calls Tryz.prog 14 #[.string (bs l), .int .i64 now] w (RowPost (lineP V now l) w) := by
  obtain ⟨R, hR⟩ : ∃ R, lineP V now l = R := ⟨_, rfl⟩
  rw [hR]
  have HR := Lib.hid hR.symm
  have HVV := Lib.hid HV
  have HSZ := Lib.hid (bs_size l)
  have M33 := Lib.hid (fun w => part33 l 0 w (by omega) (Nat.zero_le _))
  clear hR HV
  go_enter Tryz.func14, Tryz.ntmps14
  go_upto_region 3 with (fail)
  refine wp_gen (fun wx => QMem ⟨#[]⟩ [] [] (.slice none 0 0) (.slice none 0 0) 0 w wx) (start14 w) ?_
  intro w0 hm0
  have HM0 := Lib.hid hm0
  clear hm0
  go_wp2_with fail
  refine (M33.out _).mono ?_
  rintro e w1 ⟨hb1, n, z, ok, rfl, hy, hn⟩
  have hm1 := HM0.out.later hb1
  have HM1 := Lib.hid hm1
  obtain ⟨q0, q1, q2, q3, _⟩ := zcells hm1.non
  obtain ⟨_, _, _, _, z0, z1, z2, z3⟩ := zcells hm1.res
  obtain ⟨o0, o1, o2, o3, _⟩ := zcells hm1.res
  clear hb1 hm1
  cases ok with
  | false =>
    have HP : Hid (R = (2, none)) := Lib.hid (by rw [HR.out]; exact lp_none (hn rfl))
    clear hy hn
    go_wp2_with fail
    exact bodyPost_ret (results14 rfl (four _ _ _ _ HM1.out.res)) rfl (HM1.out.wrong HP.out)
  | true =>
    obtain ⟨nb, r, hs, rfl, rfl⟩ := hy rfl
    have hsl := scan_len _ (Nat.le_refl _) hs
    obtain ⟨hr1, _, hr3⟩ := scan_rest (Nat.zero_le _) hs
    obtain ⟨q, hq⟩ : ∃ q, l.length - r.length = q := ⟨_, rfl⟩
    rw [hq] at hr1 ⊢
    have hs0 : scan [] l = some (nb, r) := hs
    have HS := Lib.hid hs0
    obtain ⟨bn, hbn⟩ : ∃ b, nameB nb = b := ⟨_, rfl⟩
    have M34 := Lib.hid (fun w => rname_is (b := bn) (ofL nb) w (by rw [ofL_size]; unfold maxLen; simp at hsl; omega) (by simpa [ofL] using hbn))
    have HBN := Lib.hid hbn
    have HR1 := Lib.hid hr1
    have hql : q ≤ l.length := by omega
    clear hy hn hs hs0 hbn hr1 hsl hq hr3
    cases bn with
    | false =>
      have HP : Hid (R = (2, none)) := Lib.hid (by rw [HR.out]; exact lp_bad HS.out HBN.out)
      go_wp2_with fail
      refine (M34.out _).mono ?_
      rintro e w2 ⟨rfl, hb2⟩
      have hm2 := HM1.out.later hb2
      have HM2 := Lib.hid hm2
      clear q0 q1 q2 q3 z0 z1 z2 z3 o0 o1 o2 o3
      obtain ⟨q0, q1, q2, q3, _⟩ := zcells hm2.non
      obtain ⟨o0, o1, o2, o3, z0, z1, z2, z3⟩ := zcells hm2.res
      clear hb2 hm2
      go_wp2_with fail
      exact bodyPost_ret (results14 rfl (four _ _ _ _ HM2.out.res)) rfl (HM2.out.wrong HP.out)
    | true =>
      have HP : Hid (R = nextQ V now l.length (ofL nb) [] l.length (l.drop q)) := Lib.hid (by rw [HR.out, lp_ok HS.out HBN.out, nextN_Q, ← HR1.out])
      go_wp2_with fail
      refine (M34.out _).mono ?_
      rintro e w2 ⟨rfl, hb2⟩
      have hm2 := HM1.out.later hb2
      have HM2 := Lib.hid hm2
      clear q0 q1 q2 q3 z0 z1 z2 z3 o0 o1 o2 o3
      obtain ⟨d0, d1, d2, d3⟩ := hm2.cells
      obtain ⟨z0, z1, z2, z3⟩ := hm2.frees
      clear hb2 hm2
      go_wp2_with fail
      have HM3 := Lib.hid (HM2.out.setName (ofL nb))
      have HOK : Hid (Okay l.length (ofL nb) [] []) := Lib.hid ⟨name_sized HBN.out, (fun p h => nomatch h), (fun p h => nomatch h), Nat.zero_le _, Nat.zero_le _⟩
      clear d0 d1 d2 d3 z0 z1 z2 z3
      go_loopw [9] (fun i wx => InQT V now l R w i wx) (fun i _ => l.length - (intOf i).toNat)
      case atStart => exact ⟨_, _, _, q, l.length, rfl, hql, by omega, by simp, HM3.out, HOK.out, HP.out⟩
      case round =>
        obtain ⟨name, tags, v, p, n, rfl, hp, hn, htl, hm, hok, hR2⟩ := hrel
        rename World => wl
        have HM := Lib.hid hm
        have HK := Lib.hid hok
        have HR2 := Lib.hid hR2
        have HN := Lib.hid hn
        have HTL := Lib.hid htl
        obtain ⟨q0, q1, q2, q3, _⟩ := zcells hm.non
        obtain ⟨o0, o1, o2, o3, z0, z1, z2, z3⟩ := zcells hm.res
        clear hm hok hR2 hn htl HM3 HM2 HM1 HM0 HP HOK
        rcases list_cases (l.drop p) with e | ⟨c, t, e⟩
        · obtain ⟨h1, h2⟩ := at_nil hp e
          have HP : Hid (R = (2, none)) := Lib.hid (by rw [HR2.out, e]; rfl)
          clear e h2
          go_wp2_with fail
          exact bodyPost_ret (results14 rfl (four _ _ _ _ HM.out.res)) rfl (HM.out.wrong HP.out)
        · obtain ⟨hlt, hg, hz, hd, hkl⟩ := at_cons e
          have HD := Lib.hid hd
          have HE := Lib.hid e
          clear hd e
          by_cases h44 : c = 44
          · have c44 : ((c.toNat : Int) == 44) = true := byte_eq c 44 (by decide) h44
            obtain ⟨n, rfl⟩ : ∃ k, n = k + 1 := ⟨n - 1, by have := HN.out; omega⟩
            have HRR : Hid (R = tagsR V now l.length name (tagsP (n + 1) tags t)) := Lib.hid (by rw [HR2.out, HE.out, nextQ, h44]; rfl)
            have M35 := Lib.hid (fun w => name35 l (p + 1) 61 w (by omega) hkl)
            clear h44
            go_wp2_with fail
            refine (M35.out _).mono ?_
            rintro e w1 ⟨hb1, nm, z, ok, rfl, hy, hn⟩
            rw [HD.out] at hy hn
            have hm1 := HM.out.later hb1
            have HM1 := Lib.hid hm1
            clear q0 q1 q2 q3 o0 o1 o2 o3 z0 z1 z2 z3 hlt hg hz c44
            obtain ⟨q0, q1, q2, q3, _⟩ := zcells hm1.non
            obtain ⟨o0, o1, o2, o3, z0, z1, z2, z3⟩ := zcells hm1.res
            clear hb1 hm1
            cases ok with
            | false =>
              have HP : Hid (R = (2, none)) := Lib.hid (by
                rw [HRR.out]
                rcases hn rfl with h | ⟨nb, r, h, hb⟩
                · rw [tp_none h]; rfl
                · rw [tp_bad h hb]; rfl)
              clear hy hn
              go_wp2_with fail
              exact bodyPost_ret (results14 rfl (four _ _ _ _ HM1.out.res)) rfl (HM1.out.wrong HP.out)
            | true =>
              obtain ⟨kb, r1, hs, hnm, hh, rfl, rfl⟩ := hy rfl
              have hsl := scan_len _ (Nat.le_refl _) hs
              obtain ⟨q, r2, hq, hpq, hql, hr1, hr2⟩ := head_split (l := l) (k0 := p + 1) (by omega) (by rw [HD.out]; exact hs) hh
              subst hr1
              rw [hq]
              have HS := Lib.hid hs
              have HNM := Lib.hid hnm
              have HSB : Hid ((nameB kb && headIs 61 (61 :: r2)) = true) := Lib.hid (by rw [hnm]; rfl)
              have HR22 := Lib.hid hr2
              have M33b := Lib.hid (fun w => part33 l (q + 1) w (by omega) (by omega))
              clear hy hn hs hnm hh hsl hq hr2
              go_wp2_with fail
              refine (M33b.out _).mono ?_
              rintro e w2 ⟨hb2, nm2, z2', ok2, rfl, hy, hn⟩
              rw [← HR22.out] at hy hn
              have hm2 := HM1.out.later hb2
              have HM2 := Lib.hid hm2
              clear q0 q1 q2 q3 o0 o1 o2 o3 z0 z1 z2 z3
              obtain ⟨q0, q1, q2, q3, _⟩ := zcells hm2.non
              obtain ⟨o0, o1, o2, o3, z0, z1, z2, z3⟩ := zcells hm2.res
              clear hb2 hm2
              cases ok2 with
              | false =>
                have HP : Hid (R = (2, none)) := Lib.hid (by rw [HRR.out, tp_vnone HS.out HSB.out (hn rfl)]; rfl)
                clear hy hn
                go_wp2_with fail
                exact bodyPost_ret (results14 rfl (four _ _ _ _ HM2.out.res)) rfl (HM2.out.wrong HP.out)
              | true =>
                obtain ⟨vb, r3, hs2, rfl, rfl⟩ := hy rfl
                have hsl := scan_len _ (Nat.le_refl _) hs2
                obtain ⟨hr3, hqq, hr3l⟩ := scan_rest (l := l) (k0 := q + 1) (by omega) (by rw [← HR22.out]; exact hs2)
                obtain ⟨q3', hq3⟩ : ∃ q3', l.length - r3.length = q3' := ⟨_, rfl⟩
                rw [hq3] at hr3 hqq ⊢
                have hq3l : q3' ≤ l.length := by omega
                have HS2 : Hid (scan [] (61 :: r2).tail = some (vb, r3)) := Lib.hid hs2
                have HR3 := Lib.hid hr3
                obtain ⟨bn, hbn⟩ : ∃ b, nameB vb = b := ⟨_, rfl⟩
                have hr2l : r2.length ≤ l.length := by rw [HR22.out, List.length_drop]; omega
                have M34b := Lib.hid (fun w => rname_is (b := bn) (ofL vb) w (by rw [ofL_size]; unfold maxLen; simp at hsl; omega) (by simpa [ofL] using hbn))
                have HBN := Lib.hid hbn
                clear hy hn hs2 hsl hr3 hq3 hbn hr3l hr2l
                cases bn with
                | false =>
                  have HP : Hid (R = (2, none)) := Lib.hid (by rw [HRR.out, tp_vbad HS.out HSB.out HS2.out HBN.out]; rfl)
                  go_wp2_with fail
                  refine (M34b.out _).mono ?_
                  rintro e w3 ⟨rfl, hb3⟩
                  have hm3 := HM2.out.later hb3
                  have HM3 := Lib.hid hm3
                  clear q0 q1 q2 q3 o0 o1 o2 o3 z0 z1 z2 z3
                  obtain ⟨q0, q1, q2, q3, _⟩ := zcells hm3.non
                  obtain ⟨o0, o1, o2, o3, z0, z1, z2, z3⟩ := zcells hm3.res
                  clear hb3 hm3
                  go_wp2_with fail
                  exact bodyPost_ret (results14 rfl (four _ _ _ _ HM3.out.res)) rfl (HM3.out.wrong HP.out)
                | true =>
                  have HP : Hid (R = nextQ V now l.length name (tags ++ [(ofL kb, ofL vb)]) n (l.drop q3')) := Lib.hid (by rw [HRR.out, tp_ok HS.out HSB.out HS2.out HBN.out, tagsR_next, HR3.out])
                  go_wp2_with fail
                  refine (M34b.out _).mono ?_
                  rintro e w3 ⟨rfl, hb3⟩
                  have hm3 := HM2.out.later hb3
                  have HM3 := Lib.hid hm3
                  clear q0 q1 q2 q3 o0 o1 o2 o3 z0 z1 z2 z3 hb3
                  obtain ⟨d0, d1, d2, d3⟩ := hm3.cells
                  obtain ⟨fa, fc, hvf⟩ := hm3.rt.slice
                  subst hvf
                  have hsz5 := hm3.size
                  obtain ⟨i0, hi, hz0, hz1, hz2⟩ := info_parts info82
                  have HI := Lib.hid hi
                  have HZ0 := Lib.hid hz0
                  have HZ1 := Lib.hid hz1
                  have HZ2 := Lib.hid hz2
                  have htl2 : tags.length < 1073741824 := by have := HTL.out; omega
                  clear hi hz0 hz1 hz2 hm3
                  go_upto_region 15 with ((at_builtin; go_must (refine wpList_append_own_at _ rfl (.tmp 83) (.tmp 87) 22 rfl (w.heap.size + 3) 82 i0 _ 2 32 Tryz.underlying22 HI.out HZ0.out HZ1.out HZ2.out rfl (by omega) _ tags.length _ rfl (World.ownsRow.alloc HM3.out.rt _) ⟨w3.heap.size, 0, none⟩ 1 1 [.string (ofL kb), .string (ofL vb)] rfl rfl (World.news_of_block (cs := #[.string (ofL kb), .string (ofL vb)]) (t := 82) (fr := (0, 0)) (heap_alloc_new w3 _)) (by simp [Value.oneCell']) (by unfold maxLen; omega) (by omega) (by simp; omega) ?_); intro vn w6 hown1 hgrow1 hnn hat; clear hnn; obtain ⟨gv, cv, rfl, _, _⟩ := hown1.form (by omega); have hg6 := HM3.out.appendT (p := (ofL kb, ofL vb)) hgrow1 hat hown1 rfl rfl; have d6 : w6.cell? ⟨w.heap.size + 1 + 1, 1, none⟩ = some (.slice fa tags.length fc) := (Lib.cell_of_heap hg6.1 1); have z6 : w6.frozen? ⟨w.heap.size + 1 + 1, 1, none⟩ = false := (Lib.frozen_of_heap hg6.1 1); have HMA := Lib.hid hg6.2; clear hown1 hgrow1 hat hg6))
                  refine wp_gen (fun wx => QMem name (tags ++ [(ofL kb, ofL vb)]) [] (.slice (some ⟨gv, 0, none⟩) (tags.length + 1) cv) (.slice none 0 0) 0 w wx) HMA.out ?_
                  clear HMA d6 z6 d0 d1 d2 d3 hsz5 HM3
                  intro w7 hm7
                  have HM7 := Lib.hid hm7
                  have HOK : Hid (Okay l.length name (tags ++ [(ofL kb, ofL vb)]) []) := Lib.hid (by
                    obtain ⟨k1, k2, k3, k4, k5⟩ := HK.out
                    refine ⟨k1, fun p hp => ?_, k3, ?_, k5⟩
                    · rcases List.mem_append.1 hp with hp | hp
                      · exact k2 p hp
                      · simp at hp
                        subst hp
                        exact ⟨name_sized HNM.out, name_sized HBN.out⟩
                    · have := HTL.out
                      simp; omega)
                  clear hm7
                  go_wp2_with fail
                  refine ⟨⟨name, _, _, q3', n, rfl, hq3l, by have := HN.out; omega, by have := HTL.out; simp; omega, HM7.out, HOK.out, HP.out⟩, ?_⟩
                  simp [intOf]; omega
          · have c44 : ((c.toNat : Int) == 44) = false := byte_ne c 44 (by decide) h44
            by_cases h32 : c = 32
            · have c32 : ((c.toNat : Int) != 32) = false := by rw [h32]; rfl
              have hdp : decide ((bs l).size ≤ p) = false := decide_eq_false (by rw [HSZ.out]; omega)
              have HP : Hid (R = finP name tags (fieldsP V now l.length [] (l.drop (p + 1)))) := Lib.hid (by rw [HR2.out, HE.out, nextQ, if_pos h32, HD.out])
              clear h32 h44
              go_wp2_with fail
              clear q0 q1 q2 q3 o0 o1 o2 o3 z0 z1 z2 z3 hlt hg hz c44 c32
              go_loopw [9] (fun i wx => InQF V now l name tags v R w i wx) (fun i _ => l.length - (intOf i).toNat)
              case atStart => exact ⟨[], _, p, l.length, rfl, hkl, by omega, by simp, HM.out, HK.out, HP.out⟩
              case round =>
                obtain ⟨fields, vf, p, n, rfl, hp, hn, htl, hm, hok, hR2⟩ := hrel
                rename World => wf
                obtain ⟨n, rfl⟩ : ∃ k, n = k + 1 := ⟨n - 1, by omega⟩
                have HM := Lib.hid hm
                have HK := Lib.hid hok
                have HRR := Lib.hid hR2
                have HN := Lib.hid hn
                have HTL := Lib.hid htl
                have M35 := Lib.hid (fun w => name35 l (p + 1) 61 w (by omega) hp)
                clear hm hok hR2 hn htl HP
                go_wp2_with fail
                refine (M35.out _).mono ?_
                rintro e w1 ⟨hb1, nm, z, ok, rfl, hy, hn⟩
                have hm1 := HM.out.later hb1
                have HM1 := Lib.hid hm1
                obtain ⟨q0, q1, q2, q3, _⟩ := zcells hm1.non
                obtain ⟨o0, o1, o2, o3, z0, z1, z2, z3⟩ := zcells hm1.res
                clear hb1 hm1
                cases ok with
                | false =>
                  have HP : Hid (R = (2, none)) := Lib.hid (by
                    rw [HRR.out]
                    rcases hn rfl with h | ⟨nb, r, h, hb⟩
                    · rw [fp_none h, finP_err (by decide)]
                    · rw [fp_bad h hb, finP_err (by decide)])
                  clear hy hn
                  go_wp2_with fail
                  exact bodyPost_ret (results14 rfl (four _ _ _ _ HM1.out.res)) rfl (HM1.out.wrong HP.out)
                | true =>
                  obtain ⟨kb, r1, hs, hnm, hh, rfl, rfl⟩ := hy rfl
                  obtain ⟨q, r2, hq, hpq, hql, hr1, hr2⟩ := head_split (l := l) (k0 := p + 1) (by omega) hs hh
                  subst hr1
                  rw [hq]
                  have HS := Lib.hid hs
                  have HNM := Lib.hid hnm
                  have HSB : Hid ((nameB kb && headIs 61 (61 :: r2)) = true) := Lib.hid (by rw [hnm]; rfl)
                  have HR22 := Lib.hid hr2
                  have M36 := Lib.hid (fun w => vend36 l (q + 1) (by omega) (by omega) w)
                  clear hy hn hs hnm hh hq hr2
                  go_wp2_with fail
                  refine (M36.out _).mono ?_
                  rintro e w2 ⟨rfl, hve⟩
                  rw [← HR22.out] at hve
                  obtain ⟨ve, hvv⟩ : ∃ ve, vEnd r2 = ve := ⟨_, rfl⟩
                  rw [hvv] at hve
                  have HVE : Hid (vEnd (61 :: r2).tail = ve) := Lib.hid hvv
                  cases ve with
                  | none =>
                    obtain ⟨zz, rfl⟩ := hve
                    have HP : Hid (R = (2, none)) := Lib.hid (by rw [HRR.out, fp_noend HS.out HSB.out HVE.out, finP_err (by decide)])
                    clear hvv
                    go_wp2_with fail
                    exact bodyPost_ret (results14 rfl (four _ _ _ _ HM1.out.res)) rfl (HM1.out.wrong HP.out)
                  | some m =>
                    simp only at hve
                    subst hve
                    have hm2 : m ≤ r2.length := vEnd_le hvv
                    rw [HR22.out, List.length_drop] at hm2
                    obtain ⟨z, hz⟩ : ∃ z, q + 1 + m = z := ⟨_, rfl⟩
                    rw [hz]
                    have hz1 : (q : Int) + 1 ≤ (z : Int) := by omega
                    have hz2 : (z : Int) ≤ ((bs l).size : Int) := by rw [HSZ.out]; omega
                    have hzl : z ≤ l.length := by omega
                    have hpz : p < z := by omega
                    obtain ⟨vk, vb, vt, er, hval, hvb⟩ := HVV.out.f (r2.take m)
                    have hext : bs (r2.take m) = (bs l).extract (q + 1) z := by rw [← hz, mid_bs, ← HR22.out]
                    have M21 := Lib.hid (HVV.out.v (r2.take m) (by rw [List.length_take, HR22.out, List.length_drop]; omega) w1 HM1.out.bel)
                    rw [hval, hext] at M21
                    unfold val at M21
                    simp only at M21
                    have HVAL : Hid (V ((61 :: r2).tail.take m) = (val vk vb vt, er)) := Lib.hid hval
                    have HVB := Lib.hid hvb
                    have HRD : Hid ((61 :: r2).tail.drop m = l.drop z) := Lib.hid (by rw [List.tail_cons, HR22.out, List.drop_drop, hz])
                    clear hval hvb hvv hext hz hm2 q0 q1 q2 q3 o0 o1 o2 o3 z0 z1 z2 z3
                    go_wp2_with fail
                    refine M21.out.mono ?_
                    rintro e w4 ⟨rfl, hb4⟩
                    have hm4 := HM1.out.later hb4
                    have HM4 := Lib.hid hm4
                    clear hb4 hm4
                    go_upto_region 25 with (fail)
                    refine wp_gen (fun wx => QMem name tags fields v vf 0 w wx ∧ wx.heap[w4.heap.size]? = some (.cells #[.int .i64 vk, .int .u64 vb, .string vt] 53 (0, 0))) ⟨HM4.out.later ((Below.refl _ _).alloc (Nat.le_refl _) _), newest _ _⟩ ?_
                    rintro w5 ⟨hm5, hg5⟩
                    have HM5 := Lib.hid hm5
                    have v0 : w5.cell? ⟨w4.heap.size, 0, none⟩ = some (.int .i64 vk) := Lib.cell_of_heap hg5 0
                    have v1 : w5.cell? ⟨w4.heap.size, 1, none⟩ = some (.int .u64 vb) := Lib.cell_of_heap hg5 1
                    have v2 : w5.cell? ⟨w4.heap.size, 2, none⟩ = some (.string vt) := Lib.cell_of_heap hg5 2
                    obtain ⟨q0, q1, q2, q3, _⟩ := zcells hm5.non
                    obtain ⟨o0, o1, o2, o3, z0, z1, z2, z3⟩ := zcells hm5.res
                    by_cases her : er = 0
                    · subst her
                      clear q0 q1 q2 q3 o0 o1 o2 o3 z0 z1 z2 z3
                      have HRN : Hid (R = finP name tags (nextP V now n fields (fields ++ [(ofL kb, vk, vb, vt)]) (l.drop z))) := Lib.hid (by
                        rw [HRR.out, fp_ok HS.out HSB.out HVE.out (by rw [HVAL.out]), HVAL.out, valF_val, HRD.out])
                      obtain ⟨d0, d1, d2, d3⟩ := hm5.cells
                      obtain ⟨fa, fc, hvf⟩ := hm5.rf.slice
                      subst hvf
                      have hsz5 := hm5.size
                      obtain ⟨i0, hi, hz0, hz1', hz2'⟩ := info_parts info64
                      have HI := Lib.hid hi
                      have HZ0 := Lib.hid hz0
                      have HZ1 := Lib.hid hz1'
                      have HZ2 := Lib.hid hz2'
                      have htl2 : fields.length < 1073741824 := by have := HTL.out; omega
                      clear hi hz0 hz1' hz2' hm5 hg5
                      go_upto_region 28 with ((at_builtin; go_must (refine wpList_append_own_at _ rfl (.tmp 138) (.tmp 142) 25 rfl (w.heap.size + 3) 64 i0 _ 4 48 Tryz.underlying25 HI.out HZ0.out HZ1.out HZ2.out rfl (by omega) _ fields.length _ rfl (World.ownsRow.alloc HM5.out.rf _) ⟨w5.heap.size, 0, none⟩ 1 1 [.string (ofL kb), .int .i64 vk, .int .u64 vb, .string vt] rfl rfl (World.news_of_block (cs := #[.string (ofL kb), .int .i64 vk, .int .u64 vb, .string vt]) (t := 64) (fr := (0, 0)) (heap_alloc_new w5 _)) (by simp [Value.oneCell']) (by unfold maxLen; omega) (by omega) (by simp; omega) ?_); intro vn w6 hown1 hgrow1 hnn hat; clear hnn; obtain ⟨gv, cv, rfl, _, _⟩ := hown1.form (by omega); have hg6 := HM5.out.appendF (p := (ofL kb, vk, vb, vt)) hgrow1 hat hown1 rfl rfl; have d6 : w6.cell? ⟨w.heap.size + 1 + 1, 2, none⟩ = some (.slice fa fields.length fc) := (Lib.cell_of_heap hg6.1 2); have z6 : w6.frozen? ⟨w.heap.size + 1 + 1, 2, none⟩ = false := (Lib.frozen_of_heap hg6.1 2); have HMA := Lib.hid hg6.2; clear hown1 hgrow1 hat hg6))
                      refine wp_gen (fun wx => QMem name tags (fields ++ [(ofL kb, vk, vb, vt)]) v (.slice (some ⟨gv, 0, none⟩) (fields.length + 1) cv) 0 w wx) HMA.out ?_
                      clear HMA d6 z6 d0 d1 d2 d3 v0 v1 v2 hsz5 HM5
                      intro w7 hm7
                      have HM7 := Lib.hid hm7
                      have HOK : Hid (Okay l.length name tags (fields ++ [(ofL kb, vk, vb, vt)])) := Lib.hid (by
                        obtain ⟨k1, k2, k3, k4, k5⟩ := HK.out
                        refine ⟨k1, k2, fun p hp => ?_, k4, ?_⟩
                        · rcases List.mem_append.1 hp with hp | hp
                          · exact k3 p hp
                          · simp at hp
                            subst hp
                            exact ⟨name_sized HNM.out, HVB.out⟩
                        · have := HTL.out
                          simp; omega)
                      clear hz1 hz2
                      rcases list_cases (l.drop z) with e | ⟨c, t, e⟩
                      · obtain ⟨h1, h2⟩ := at_nil hzl e
                        have HP : Hid (finP name tags (0, fields ++ [(ofL kb, vk, vb, vt)], now) = R) := Lib.hid (by rw [HRN.out, e]; rfl)
                        obtain ⟨d0, d1, d2, d3⟩ := hm7.cells
                        obtain ⟨z0, z1, z2, z3⟩ := hm7.frees
                        clear e h2 hm7
                        go_upto_region 31 with (fail)
                        refine wp_gen (fun wx => QMem name tags (fields ++ [(ofL kb, vk, vb, vt)]) v (.slice (some ⟨gv, 0, none⟩) (fields.length + 1) cv) now w wx) (HM7.out.setTime now) ?_
                        clear d0 d1 d2 d3 z0 z1 z2 z3
                        intro w8 hm8
                        have HM8 := Lib.hid hm8
                        obtain ⟨d0, d1, d2, d3⟩ := hm8.cells
                        have M38 := Lib.hid (sorted38 hl (w.heap.size + 3) name tags (fields ++ [(ofL kb, vk, vb, vt)]) v _ now w8 (by have := hm8.size; omega) hm8.rt hm8.rf hm8.ap HOK.out)
                        rw [HP.out] at M38
                        clear hm8
                        go_wp2_with fail
                        refine M38.out.mono ?_
                        intro e w9 hp9
                        obtain ⟨xa, x1, x2, x3, x4, x5, x6, xd, xe, rfl, hr9, hpost⟩ := HM8.out.fin hp9
                        have HR9 := Lib.hid hr9
                        have HPO := Lib.hid hpost
                        obtain ⟨o0, o1, o2, o3, z0, z1, z2, z3⟩ := zcells hr9
                        clear hp9 hr9 hpost
                        go_wp2_with fail
                        refine bodyPost_ret (results14 rfl (four _ _ _ _ HR9.out)) rfl ?_
                        exact HPO.out
                      · obtain ⟨hlt, hg, hz, hd, hkl⟩ := at_cons e
                        have HD := Lib.hid hd
                        have HE := Lib.hid e
                        clear hd e
                        by_cases h44 : c = 44
                        · have c44 : ((c.toNat : Int) != 44) = false := by rw [h44]; rfl
                          have HP : Hid (R = finP name tags (fieldsP V now n (fields ++ [(ofL kb, vk, vb, vt)]) (l.drop (z + 1)))) := Lib.hid (by rw [HRN.out, HE.out, nextP, if_pos h44, HD.out])
                          clear h44 hm7
                          go_wp2_with fail
                          go_roundw
                          case rel =>
                            exact ⟨_, _, z, n, rfl, hkl, by have := HN.out; omega, by have := HTL.out; simp; omega, HM7.out, HOK.out, HP.out⟩
                          case measure => simp [intOf]; omega
                        · have c44 : ((c.toNat : Int) != 44) = true := byte_bne c 44 (by decide) h44
                          obtain ⟨d0, d1, d2, d3⟩ := hm7.cells
                          obtain ⟨z0, z1, z2, z3⟩ := hm7.frees
                          have HC44 := Lib.hid h44
                          clear hm7 h44
                          by_cases h32 : c = 32
                          · have c32 : ((c.toNat : Int) != 32) = false := by rw [h32]; rfl
                            have HP : Hid (R = finP name tags ((PF.intP t).2, fields ++ [(ofL kb, vk, vb, vt)], (PF.intP t).1)) := Lib.hid (by rw [HRN.out, HE.out, nextP, if_neg HC44.out, if_pos h32])
                            clear h32
                            go_upto_region 31 with (fail)
                            refine wp_gen (fun wx => QMem name tags (fields ++ [(ofL kb, vk, vb, vt)]) v (.slice (some ⟨gv, 0, none⟩) (fields.length + 1) cv) now w wx) (HM7.out.setTime now) ?_
                            clear d0 d1 d2 d3 z0 z1 z2 z3
                            intro w7' hm7'
                            have HM7' := Lib.hid hm7'
                            obtain ⟨q0, q1, q2, q3, _⟩ := zcells hm7'.non
                            obtain ⟨o0, o1, o2, o3, z0, z1, z2, z3⟩ := zcells hm7'.res
                            obtain ⟨x, hx⟩ : ∃ x, PF.intP t = x := ⟨_, rfl⟩
                            have hext : bs t = (bs l).extract (z + 1) (bs l).size := by rw [drop_bs, HD.out]
                            have M37 := Lib.hid (int37 t (by rw [← HD.out, List.length_drop]; omega) w7')
                            rw [hx, hext] at M37
                            rw [hx] at HP
                            obtain ⟨tv, er⟩ := x
                            simp only at M37 HP
                            have hz3 : (z : Int) + 1 ≤ ((bs l).size : Int) := by rw [HSZ.out]; omega
                            clear hx hext hm7'
                            by_cases her : er = 0
                            · subst her
                              have HP2 : Hid (finP name tags (0, fields ++ [(ofL kb, vk, vb, vt)], tv) = R) := Lib.hid HP.out.symm
                              clear q0 q1 q2 q3 o0 o1 o2 o3 z0 z1 z2 z3
                              go_wp2_with fail
                              refine M37.out.mono ?_
                              rintro e wz ⟨rfl, hw⟩
                              obtain rfl := hw.symm
                              obtain ⟨d0, d1, d2, d3⟩ := HM7'.out.cells
                              obtain ⟨z0, z1, z2, z3⟩ := HM7'.out.frees
                              clear hw
                              go_upto_region 38 with (fail)
                              refine wp_gen (fun wx => QMem name tags (fields ++ [(ofL kb, vk, vb, vt)]) v (.slice (some ⟨gv, 0, none⟩) (fields.length + 1) cv) tv w wx) (HM7'.out.setTime tv) ?_
                              clear d0 d1 d2 d3 z0 z1 z2 z3
                              intro w8 hm8
                              have HM8 := Lib.hid hm8
                              obtain ⟨d0, d1, d2, d3⟩ := hm8.cells
                              have M38 := Lib.hid (sorted38 hl (w.heap.size + 3) name tags (fields ++ [(ofL kb, vk, vb, vt)]) v _ tv w8 (by have := hm8.size; omega) hm8.rt hm8.rf hm8.ap HOK.out)
                              rw [HP2.out] at M38
                              clear hm8
                              go_wp2_with fail
                              refine M38.out.mono ?_
                              intro e w9 hp9
                              obtain ⟨xa, x1, x2, x3, x4, x5, x6, xd, xe, rfl, hr9, hpost⟩ := HM8.out.fin hp9
                              have HR9 := Lib.hid hr9
                              have HPO := Lib.hid hpost
                              obtain ⟨o0, o1, o2, o3, z0, z1, z2, z3⟩ := zcells hr9
                              clear hp9 hr9 hpost
                              go_wp2_with fail
                              refine bodyPost_ret (results14 rfl (four _ _ _ _ HR9.out)) rfl ?_
                              exact HPO.out
                            · have hern : (er != 0) = true := by simpa using her
                              have HP2 : Hid (R = (er, none)) := Lib.hid (by rw [HP.out]; exact finP_err her)
                              clear her
                              go_wp2_with fail
                              refine M37.out.mono ?_
                              rintro e wz ⟨rfl, hw⟩
                              obtain rfl := hw.symm
                              clear hw
                              go_wp2_with fail
                              exact bodyPost_ret (results14 rfl (four _ _ _ _ HM7'.out.res)) rfl (HM7'.out.wrong HP2.out)
                          · have c32 : ((c.toNat : Int) != 32) = true := byte_bne c 32 (by decide) h32
                            have HP : Hid (R = (2, none)) := Lib.hid (by rw [HRN.out, HE.out, nextP, if_neg HC44.out, if_neg h32, finP_err (by decide)])
                            clear h32
                            go_upto_region 31 with (fail)
                            refine wp_gen (fun wx => QMem name tags (fields ++ [(ofL kb, vk, vb, vt)]) v (.slice (some ⟨gv, 0, none⟩) (fields.length + 1) cv) now w wx) (HM7.out.setTime now) ?_
                            clear d0 d1 d2 d3 z0 z1 z2 z3
                            intro w8 hm8
                            have HM8 := Lib.hid hm8
                            obtain ⟨q0, q1, q2, q3, _⟩ := zcells hm8.non
                            obtain ⟨o0, o1, o2, o3, z0, z1, z2, z3⟩ := zcells hm8.res
                            clear hm8
                            go_wp2_with fail
                            exact bodyPost_ret (results14 rfl (four _ _ _ _ HM8.out.res)) rfl (HM8.out.wrong HP.out)
                    · have hern : (er != 0) = true := by simpa using her
                      have HP : Hid (R = (er, none)) := Lib.hid (by
                        have hv2 : (V ((61 :: r2).tail.take m)).2 = er := by rw [HVAL.out]
                        rw [HRR.out, fp_err HS.out HSB.out HVE.out (by rw [hv2]; exact her), hv2, finP_err her])
                      clear her hm5 hg5 v0 v1 v2
                      go_wp2_with fail
                      exact bodyPost_ret (results14 rfl (four _ _ _ _ HM5.out.res)) rfl (HM5.out.wrong HP.out)
            · have c32 : ((c.toNat : Int) != 32) = true := byte_bne c 32 (by decide) h32
              have HP : Hid (R = (2, none)) := Lib.hid (by rw [HR2.out, HE.out, nextQ, if_neg h32, if_neg h44])
              clear h32 h44
              go_wp2_with fail
              exact bodyPost_ret (results14 rfl (four _ _ _ _ HM.out.res)) rfl (HM.out.wrong HP.out)
end Go.Proofs.YtagiddbfhlokcaaGreatDoor.Ser
/- Two series are the same, by the reference; and the law's waking question. Condition: texts' lengths are numbers of Go's int. -/
namespace Go.Proofs.YtagiddbfhlokcaaGreatDoor.Ser
open Go.RowKit Go.Sort
def tagEq (kf vf kg vg : Nat → ByteArray) (i : Nat) : Bool := (kf i).toList == (kg i).toList && (vf i).toList == (vg i).toList
def sameB (name name' : ByteArray) (n n' : Nat) (kf vf kg vg : Nat → ByteArray) : Bool := (name.toList == name'.toList) && (decide (n = n') && (List.range n).all (tagEq kf vf kg vg))
theorem sameB_bad {name name' : ByteArray} {n k : Nat} {kf vf kg vg : Nat → ByteArray} (hk : k < n) (h : tagEq kf vf kg vg k = false) : sameB name name' n n kf vf kg vg = false := by
  have : (List.range n).all (tagEq kf vf kg vg) = false := by
    rw [List.all_eq_false]
    exact ⟨k, by simpa using hk, by simp [h]⟩
  simp [sameB, this]
def InSame (n cap cap' : Nat) (a a' : Option Addr) (kf vf kg vg : Nat → ByteArray) (w : World) (i : Value) (wr : World) : Prop :=
  ∃ k : Nat, k ≤ n ∧ i = .int .i64 k ∧ (List.range k).all (tagEq kf vf kg vg) = true ∧ Below w.heap.size w wr ∧ wr.cell? ⟨w.heap.size, 1, none⟩ = some (.slice a n cap) ∧ wr.cell? ⟨w.heap.size + 1, 1, none⟩ = some (.slice a' n cap')
theorem same (name name' : ByteArray) (a a' : Option Addr) (n n' cap cap' : Nat) (kf vf kg vg : Nat → ByteArray) (w : World) (hn : n < 2 ^ 63)
    (ht : TagsAt w a n kf vf) (ht' : TagsAt w a' n' kg vg) : Calls Tryz.prog 32 #[.agg #[.string name, .slice a n cap], .agg #[.string name', .slice a' n' cap']] w (Answer (.bool (sameB name name' n n' kf vf kg vg)) w) := by
  have HT := Lib.hid ht
  have HT' := Lib.hid ht'
  clear ht ht'
  have hbb : Below w.heap.size w ((w.alloc (.cells #[.string name, .slice a n cap] 24)).alloc (.cells #[.string name', .slice a' n' cap'] 24)) := (((Below.refl _ _).alloc (Nat.le_refl _) _).alloc (by simp) _)
  have HBB := Lib.hid hbb
  clear hbb
  cases e0 : (name.toList == name'.toList) with
  | false =>
    have hne : (!(name.toList == name'.toList)) = true := by rw [e0]; rfl
    have HE := Lib.hid e0
    clear e0
    go_enter Tryz.func32, Tryz.ntmps32
    go_wp2
    go_ret
    exact ⟨ret_bool (by simp [sameB, HE.out]), HBB.out⟩
  | true =>
  by_cases hnn : n = n'
  · subst hnn
    have HE := Lib.hid e0
    have hne : (!(name.toList == name'.toList)) = false := by rw [e0]; rfl
    clear e0
    go_enter Tryz.func32, Tryz.ntmps32
    go_wp2
    go_loopw [23] (fun i wr => InSame n cap cap' a a' kf vf kg vg w i wr) (fun i _ => n - (intOf i).toNat)
    case atStart => exact ⟨0, Nat.zero_le _, rfl, rfl, HBB.out, by simp, by simp⟩
    case round =>
      obtain ⟨k, hk, rfl, hall, hb, hc0, hc1⟩ := hrel
      have HA := Lib.hid hall
      have HB := Lib.hid hb
      clear hall hb
      by_cases hlt : k < n
      · obtain ⟨b, off, ha, hbw, hck, hcv⟩ := HT.out k hlt
        obtain ⟨b', off', ha', hbw', hck', hcv'⟩ := HT'.out k hlt
        subst ha
        subst ha'
        have hd1 : wr.cell? ⟨b, off + k * 2, none⟩ = some (.string (kf k)) := by rw [← hck]; exact HB.out.cell hbw
        have hd2 : wr.cell? ⟨b, off + k * 2 + 1, none⟩ = some (.string (vf k)) := by rw [← hcv]; exact HB.out.cell hbw
        have hd3 : wr.cell? ⟨b', off' + k * 2, none⟩ = some (.string (kg k)) := by rw [← hck']; exact HB.out.cell hbw'
        have hd4 : wr.cell? ⟨b', off' + k * 2 + 1, none⟩ = some (.string (vg k)) := by rw [← hcv']; exact HB.out.cell hbw'
        clear hck hcv hck' hcv'
        have hi0 : (0 : Int) ≤ (k : Int) := by omega
        have hi1 : (k : Int) < (n : Int) := by omega
        cases e1 : ((kf k).toList == (kg k).toList) with
        | false =>
          have HT1 := Lib.hid (show tagEq kf vf kg vg k = false by simp [tagEq, e1])
          go_wp2_with fail
          go_quiet (fail)
          go_wp2
          go_ret
          exact ⟨ret_bool (sameB_bad hlt HT1.out).symm, below_drewN HB.out _⟩
        | true =>
          cases e2 : ((vf k).toList == (vg k).toList) with
          | false =>
            have HT1 := Lib.hid (show tagEq kf vf kg vg k = false by simp [tagEq, e2])
            go_wp2_with fail
            go_quiet (fail)
            go_wp2
            go_ret
            exact ⟨ret_bool (sameB_bad hlt HT1.out).symm, below_drewN HB.out _⟩
          | true =>
            have HT1 := Lib.hid (show tagEq kf vf kg vg k = true by simp only [tagEq, e1, e2]; rfl)
            go_wp2_with fail
            go_quiet (fail)
            go_wp2
            go_roundw
            case rel => exact ⟨k + 1, hlt, by go_num, by rw [List.range_succ, List.all_append, HA.out]; simp [HT1.out], below_drewN HB.out _, hc0, hc1⟩
            case measure => simp [intOf]; omega
      · have hke : k = n := by omega
        have HAn := Lib.hid (show (List.range n).all (tagEq kf vf kg vg) = true by rw [← hke]; exact HA.out)
        clear hke
        go_wp2
        go_ret
        exact ⟨ret_bool (by simp [sameB, HAn.out, HE.out]), HB.out⟩
  · have HE := Lib.hid e0
    have hn1 : ((n : Int) != (n' : Int)) = true := by rw [bne_iff_ne]; omega
    have HN := Lib.hid hnn
    clear hnn
    go_enter Tryz.func32, Tryz.ntmps32
    go_wp2
    go_ret
    exact ⟨ret_bool (by simp [sameB, HN.out]), HBB.out⟩
end Go.Proofs.YtagiddbfhlokcaaGreatDoor.Ser
/- Two rows that hold the same are the same, by the reference. Condition: numbers of tags and fields. -/
namespace Go.Proofs.YtagiddbfhlokcaaGreatDoor.Ser
open Go.RowKit Go.Sort
set_option maxRecDepth 100000
theorem sameB_self (name : ByteArray) (n : Nat) (kf vf : Nat → ByteArray) : sameB name name n n kf vf kf vf = true := by
  unfold sameB tagEq
  simp
def InSm (L : List Fd) (a a' fa fa' : Option Addr) (name : ByteArray) (n c c' fc fc' : Nat) (tm : Int) (w : World) (i : Value) (wr : World) : Prop :=
  ∃ k : Nat, k ≤ L.length ∧ i = .int .i64 k ∧ Below w.heap.size w wr ∧ w.heap.size + 1 < wr.heap.size ∧ wr.cell? ⟨w.heap.size, 2, none⟩ = some (.slice fa L.length fc) ∧ wr.cell? ⟨w.heap.size + 1, 2, none⟩ = some (.slice fa' L.length fc')
set_option maxHeartbeats 4000000 in
theorem same13 (name : ByteArray) (a a' fa fa' : Option Addr) (n c c' fc fc' : Nat) (tm : Int) (kf vf : Nat → ByteArray) (L : List Fd) (w : World) (hn : n < 2 ^ 63) (hl : L.length < 2 ^ 62)
    (ht : TagsAt w a n kf vf) (ht' : TagsAt w a' n kf vf) (hf : FieldsAt w fa L) (hf' : FieldsAt w fa' L) :
    Calls Tryz.prog 13 #[.agg #[.string name, .slice a n c, .slice fa L.length fc, .int .i64 tm], .agg #[.string name, .slice a' n c', .slice fa' L.length fc', .int .i64 tm]] w (Answer (.bool true) w) := by
  have hbb : Below w.heap.size w ((w.alloc (.cells #[.string name, .slice a n c, .slice fa L.length fc, .int .i64 tm] 27)).alloc (.cells #[.string name, .slice a' n c', .slice fa' L.length fc', .int .i64 tm] 27)) := (((Below.refl _ _).alloc (Nat.le_refl _) _).alloc (by simp) _)
  have HF := Lib.hid hf
  have HF' := Lib.hid hf'
  have HBB := Lib.hid hbb
  obtain ⟨nl, hnl⟩ : ∃ m, L.length = m := ⟨_, rfl⟩
  have M32 := Lib.hid (fun w2 (h : Below w.heap.size w w2) => same name name a a' n n c c' kf vf kf vf w2 hn (fun i hi => by
    obtain ⟨b, off, h1, h2, h3, h4⟩ := ht i hi
    exact ⟨b, off, h1, Nat.lt_of_lt_of_le h2 h.size, by rw [← h3]; exact h.cell h2, by rw [← h4]; exact h.cell h2⟩) (fun i hi => by
    obtain ⟨b, off, h1, h2, h3, h4⟩ := ht' i hi
    exact ⟨b, off, h1, Nat.lt_of_lt_of_le h2 h.size, by rw [← h3]; exact h.cell h2, by rw [← h4]; exact h.cell h2⟩))
  rw [sameB_self] at M32
  have hl2 : nl < 2 ^ 62 := by omega
  rw [hnl] at HBB ⊢
  have HNL := Lib.hid hnl
  clear hbb ht ht' hf hf' hnl hl
  go_enter Tryz.func13, Tryz.ntmps13
  go_upto_region 1 with (fail)
  refine wp_gen (fun wx => Below w.heap.size w wx ∧ wx.heap[w.heap.size]? = some (.cells #[.string name, .slice a n c, .slice fa nl fc, .int .i64 tm] 27 (0, 0)) ∧ wx.heap[w.heap.size + 1]? = some (.cells #[.string name, .slice a' n c', .slice fa' nl fc', .int .i64 tm] 27 (0, 0))) ⟨HBB.out, ?_, ?_⟩ ?_
  · exact (Below.heap_alloc _ _ _ (by simp)).trans (newest _ _)
  · have := newest (w.alloc (.cells #[.string name, .slice a n c, .slice fa nl fc, .int .i64 tm] 27)) (.cells #[.string name, .slice a' n c', .slice fa' nl fc', .int .i64 tm] 27 (0, 0))
    rw [show (w.alloc (.cells #[.string name, .slice a n c, .slice fa nl fc, .int .i64 tm] 27)).heap.size = w.heap.size + 1 by simp] at this
    exact this
  rintro w1 ⟨hb1, hk0, hk1⟩
  have c0 : w1.cell? ⟨w.heap.size, 0, none⟩ = some (.string name) := Lib.cell_of_heap hk0 0
  have c1 : w1.cell? ⟨w.heap.size, 1, none⟩ = some (.slice a n c) := Lib.cell_of_heap hk0 1
  have d0 : w1.cell? ⟨w.heap.size + 1, 0, none⟩ = some (.string name) := Lib.cell_of_heap hk1 0
  have d1 : w1.cell? ⟨w.heap.size + 1, 1, none⟩ = some (.slice a' n c') := Lib.cell_of_heap hk1 1
  have HB1 := Lib.hid hb1
  have HK0 := Lib.hid hk0
  have HK1 := Lib.hid hk1
  clear hb1 hk0 hk1 HBB
  go_wp2_with fail
  refine (M32.out w1 HB1.out).mono ?_
  rintro e w2 ⟨rfl, hb2⟩
  have hk0 := (hb2.block _ (lt_of_block HK0.out)).trans HK0.out
  have hk1 := (hb2.block _ (lt_of_block HK1.out)).trans HK1.out
  have c2 : w2.cell? ⟨w.heap.size, 2, none⟩ = some (.slice fa nl fc) := Lib.cell_of_heap hk0 2
  have c3 : w2.cell? ⟨w.heap.size, 3, none⟩ = some (.int .i64 tm) := Lib.cell_of_heap hk0 3
  have d2 : w2.cell? ⟨w.heap.size + 1, 2, none⟩ = some (.slice fa' nl fc') := Lib.cell_of_heap hk1 2
  have d3 : w2.cell? ⟨w.heap.size + 1, 3, none⟩ = some (.int .i64 tm) := Lib.cell_of_heap hk1 3
  have HB2 := Lib.hid (HB1.out.trans (hb2.mono HB1.out.size))
  have HS2 := Lib.hid (lt_of_block hk1)
  clear hb2 hk0 hk1 c0 c1 d0 d1
  go_wp2_with fail
  have HC2 := Lib.hid c2
  have HD2 := Lib.hid d2
  clear c2 c3 d2 d3
  go_loopw [31] (fun i wx => InSm L a a' fa fa' name n c c' fc fc' tm w i wx) (fun i _ => nl - (intOf i).toNat)
  case atStart => exact ⟨0, Nat.zero_le _, rfl, HB2.out, HS2.out, by rw [HNL.out]; exact HC2.out, by rw [HNL.out]; exact HD2.out⟩
  case round =>
    obtain ⟨k, hk, rfl, hb, hsz, c2, d2⟩ := hrel
    rw [HNL.out] at hk c2 d2
    have HB := Lib.hid hb
    have HSZ := Lib.hid hsz
    by_cases hlt : k < nl
    · obtain ⟨b, off, ha, hbw, e0, e1, e2, e3⟩ := HF.out k (by rw [HNL.out]; exact hlt)
      obtain ⟨b', off', ha', hbw', e0', e1', e2', e3'⟩ := HF'.out k (by rw [HNL.out]; exact hlt)
      subst ha ha'
      have g0 := (hb.cell (p := ⟨b, off + k * 4, none⟩) hbw).trans e0
      have g1 := (hb.cell (p := ⟨b, off + k * 4 + 1, none⟩) hbw).trans e1
      have g2 := (hb.cell (p := ⟨b, off + k * 4 + 2, none⟩) hbw).trans e2
      have g3 := (hb.cell (p := ⟨b, off + k * 4 + 3, none⟩) hbw).trans e3
      have g0' := (hb.cell (p := ⟨b', off' + k * 4, none⟩) hbw').trans e0'
      have g1' := (hb.cell (p := ⟨b', off' + k * 4 + 1, none⟩) hbw').trans e1'
      have g2' := (hb.cell (p := ⟨b', off' + k * 4 + 2, none⟩) hbw').trans e2'
      have g3' := (hb.cell (p := ⟨b', off' + k * 4 + 3, none⟩) hbw').trans e3'
      obtain ⟨⟨ky, vk, vb, vt⟩, hfe⟩ : ∃ f, fE L k = f := ⟨_, rfl⟩
      rw [hfe] at g0 g1 g2 g3 g0' g1' g2' g3'
      simp only at g0 g1 g2 g3 g0' g1' g2' g3'
      have hkz : (k : Int) < (nl : Int) := by omega
      have HLT := Lib.hid hlt
      have HC := Lib.hid c2
      have HD := Lib.hid d2
      clear hb hbw hbw' e0 e1 e2 e3 e0' e1' e2' e3' hfe hk hsz
      go_wp2_with fail
      go_quiet (fail)
      go_wp2_with fail
      refine ⟨⟨k + 1, by rw [HNL.out]; exact HLT.out, by go_num, below_drewN HB.out _, HSZ.out, by rw [HNL.out]; exact HC.out, by rw [HNL.out]; exact HD.out⟩, ?_⟩
      simp [intOf]; omega
    · have hkz : ¬ (k : Int) < (nl : Int) := by omega
      clear hb hlt hk hsz
      go_wp2_with fail
      go_ret
      exact ⟨rfl, HB.out⟩
end Go.Proofs.YtagiddbfhlokcaaGreatDoor.Ser
/- A world that holds what the row lists: the row's witness; the cells of the two tables of powers out of the row's condition. No condition. -/
namespace Go.Proofs.YtagiddbfhlokcaaGreatDoor.Laid
def lst : List (String × DataW Unit) := Rows.valueParsesRow.laid
set_option maxRecDepth 100000 in
theorem fits (os : Os) : (World.holding Tryz.prog os ⟨#[], #[], []⟩).layFits Tryz.prog lst [] = true := by kernel_rfl
set_option maxRecDepth 100000 in
theorem ifaces (os : Os) : (World.holding Tryz.prog os ⟨#[], #[], []⟩).layIfaces Tryz.prog lst (World.laidAll Tryz.prog os lst) = true := by kernel_rfl
set_option maxRecDepth 100000 in
theorem plain : (lst.all fun x => x.2.handleName?.isNone) = true := by kernel_rfl
theorem met (os : Os) (args : Array Value) : laidMetH Tryz.prog lst ((World.laidAll Tryz.prog os lst).forCall (fun _ _ => 0) ⟨#[], args, []⟩).memory := by
  rw [MakeChecks.laidMetH_plain _ _ _ plain]
  exact laidMet_laidAll _ (fits os) (ifaces os)
set_option maxRecDepth 100000 in
theorem zipB (os : Os) (args : Array Value) : ((World.laidAll Tryz.prog os lst).forCall (fun _ _ => 0) ⟨#[], args, []⟩).variablesZipB Tryz.prog = true := by kernel_rfl
set_option maxRecDepth 100000 in
theorem dropB (os : Os) (args : Array Value) : (((World.laidAll Tryz.prog os lst).forCall (fun _ _ => 0) ⟨#[], args, []⟩).heap.toList.drop Tryz.prog.globals.size).take ((begin Tryz.prog (fun _ _ => 0) default).world.heap.size - Tryz.prog.globals.size) =
      (begin Tryz.prog (fun _ _ => 0) default).world.heap.toList.drop Tryz.prog.globals.size := by kernel_rfl
theorem shaped (os : Os) (args : Array Value) : ((World.laidAll Tryz.prog os lst).forCall (fun _ _ => 0) ⟨#[], args, []⟩).Shaped Tryz.prog := World.shaped_of_ZipB (zipB os args) (dropB os args)
end Go.Proofs.YtagiddbfhlokcaaGreatDoor.Laid
