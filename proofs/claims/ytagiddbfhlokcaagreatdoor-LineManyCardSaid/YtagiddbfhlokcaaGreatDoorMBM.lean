/- Several texts of this proof, laid together. Conditions: as each says. -/
import Derived.Test.YtagiddbfhlokcaaGreatDoorMBL
import Derived.Deep.Cut
import Derived.Deep.CutRange
import Derived.BigRegion
import Derived.WalkMore
/- The reference's way to put a row in order: the walk. No condition. -/
namespace Go.Proofs.YtagiddbfhlokcaaGreatDoor.Ser
open Go.RowKit Go.Sort
set_option maxRecDepth 100000
end Go.Proofs.YtagiddbfhlokcaaGreatDoor.Ser
/- Reading a line by the program: the walk of the fields. Conditions: the text's length; the readers of values. -/
namespace Go.Proofs.YtagiddbfhlokcaaGreatDoor.Ser
open Go.RowKit Go.Sort
set_option maxRecDepth 100000
/-- The readers of values and of integers, wherever the tables lie as they did. -/
structure Readers (V : List UInt8 → Value × Int) (w : World) : Prop where
  v : ∀ l, l.length ≤ 140737488355328 → ∀ w2, Below w.heap.size w w2 → Calls Tryz.prog 22 #[.string (bs l)] w2 fun e w' => e = .returned (.tuple #[(V l).1, .int .i64 (V l).2]) ∧ Below w2.heap.size w2 w'
  i : ∀ l, l.length ≤ 140737488355328 → ∀ w2, Below w.heap.size w w2 → Calls Tryz.prog 43 #[.string (bs l)] w2 fun e w' => e = .returned (.tuple #[.int .i64 (PF.intP l).1, .int .i64 (PF.intP l).2]) ∧ Below w2.heap.size w2 w'
  f : ∀ l, ∃ k b t n, V l = (val k b t, n) ∧ 0 ≤ b ∧ b < 18446744073709551616
theorem rets_jumps {R : LR} {w : World} {Q : Exit → Act → World → Prop} {J : Nat → Act → World → Prop} (h : Rets R w Q) : Rets R w (Jumps J Q) := h
set_option maxHeartbeats 8000000 in
theorem pass_field {V : List UInt8 → Value × Int} {now : Int} {L : Nat} (hL : L ≤ 1073741824) {R : LR} {w : World} (HV : Readers V w) {m : Nat} {J : Nat → Act → World → Prop} {Q : Exit → Act → World → Prop} (hret : Rets R w Q)
    (hj0 : ∀ a w', JWrong R w a w' → J 0 a w') (hj1 : ∀ a w' m', m' < m → JField V now L R w m' a w' → J 1 a w') (hj3 : ∀ a w', JEnd L R w a w' → J 3 a w') (rest : Code)
    (hr : (Tryz.f15.body.bind firstScope).bind (findLabel · 1) = some (Code.skip.seq rest)) (a : Act) (wr : World) (hJ : JField V now L R w m a wr) : rest.wp Tryz.prog (Jumps J Q) a wr := by
  change some _ = some _ at hr
  cases hr
  obtain ⟨⟨hd0, hsz, g4, g6, g10⟩, g11, name, tags, fields, v, vf, c, r, n, g0, hm, ⟨hn1, hn2, hn3, hn4, hn5⟩, hlen, hrn, hrm, hR⟩ := hJ
  obtain ⟨fr, rfl, hf⟩ := frame_of166 a hsz hd0
  rw [hf] at g4 g6 g10 g11 g0
  rw [g4, g6, g10, g11, g0]
  obtain ⟨hlt, hg, hem, h0i, h1i, htl⟩ := bs_head (r := c :: r) rfl
  obtain ⟨n, rfl⟩ : ∃ k, n = k + 1 := ⟨n - 1, by omega⟩
  have M39 := Lib.hid (fun w => cut39 r w (by omega))
  have HM := Lib.hid hm
  have HR := Lib.hid hR
  have HRET := Lib.hid hret
  have HJ0 := Lib.hid hj0
  have HJ1 := Lib.hid hj1
  have HJ3 := Lib.hid hj3
  have HVV := Lib.hid HV
  have HN2 := Lib.hid hn2
  have HN3 := Lib.hid hn3
  clear hf hsz hd0 hR hret hj0 hj1 hj3 HV hm hn2 hn3 hg
  go_wp2_with fail
  refine (M39.out _).mono ?_
  intro e w1 hcp
  obtain ⟨b, s1, ok, rfl, hy, hno, hb1⟩ := cutPost_cases hcp
  have hm1 := HM.out.later hb1
  have HM1 := Lib.hid hm1
  clear hcp hb1 hm1 hlt hem h0i h1i htl
  cases ok with
  | false =>
    have HP : Hid (R = (2, none)) := Lib.hid (by rw [HR.out, fp_none (hno rfl), finP_err (by decide)])
    clear hy hno
    go_wp2_with fail
    go_step3
    refine HJ0.out _ _ ?_
    exact ⟨⟨rfl, rfl, rfl, rfl, rfl⟩, 2, rfl, HP.out, HM1.out.res, HM1.out.bel⟩
  | true =>
    obtain ⟨kb, r1, hs, rfl, rfl⟩ := hy rfl
    have hl1 := scan_len _ (Nat.le_refl _) hs
    simp only [List.length_nil, Nat.zero_add] at hl1
    have HS := Lib.hid hs
    have M40 := Lib.hid (fun w => name40 kb (by omega) w)
    obtain ⟨bn, hbn⟩ : ∃ b, nameB kb = b := ⟨_, rfl⟩
    rw [hbn] at M40
    have HBN := Lib.hid hbn
    obtain ⟨bq, hbq⟩ : ∃ b, headIs 61 r1 = b := ⟨_, rfl⟩
    have M41 := Lib.hid (fun w => hasP r1 61 w)
    rw [hbq] at M41
    have HBQ := Lib.hid hbq
    clear hy hno hs hbn hbq
    cases bn with
    | false =>
      have HP : Hid (R = (2, none)) := Lib.hid (by rw [HR.out, fp_bad HS.out (by rw [HBN.out]; rfl), finP_err (by decide)])
      go_wp2_with fail
      refine (M40.out _).mono ?_
      rintro e w2 ⟨rfl, hb2⟩
      have HM2 := Lib.hid (HM1.out.later hb2)
      clear hb2
      go_wp2_with fail
      go_step3
      refine HJ0.out _ _ ?_
      exact ⟨⟨rfl, rfl, rfl, rfl, rfl⟩, 2, rfl, HP.out, HM2.out.res, HM2.out.bel⟩
    | true =>
      cases bq with
      | false =>
        have HP : Hid (R = (2, none)) := Lib.hid (by rw [HR.out, fp_bad HS.out (by rw [HBQ.out, Bool.and_false]), finP_err (by decide)])
        go_wp2_with fail
        refine (M40.out _).mono ?_
        rintro e w2 ⟨rfl, hb2⟩
        have HM2 := Lib.hid (HM1.out.later hb2)
        clear hb2
        go_wp2_with fail
        refine (M41.out _).mono ?_
        rintro e w' ⟨rfl, rfl⟩
        go_wp2_with fail
        go_step3
        refine HJ0.out _ _ ?_
        exact ⟨⟨rfl, rfl, rfl, rfl, rfl⟩, 2, rfl, HP.out, HM2.out.res, HM2.out.bel⟩
      | true =>
        obtain ⟨r2, rfl⟩ : ∃ r2, r1 = 61 :: r2 := by
          have := HBQ.out
          rcases list_cases r1 with e | ⟨c, t, e⟩
          · rw [e] at this; cases this
          · rw [e] at this
            simp only [headIs, decide_eq_true_eq] at this
            exact ⟨t, by rw [e, this]⟩
        simp only [List.length_cons] at hl1
        have HSB : Hid ((nameB kb && headIs 61 (61 :: r2)) = true) := Lib.hid (by rw [HBN.out]; rfl)
        obtain ⟨hlt, hg, hem, h0i, h1i, htl⟩ := bs_head (r := 61 :: r2) rfl
        have M42 := Lib.hid (fun w => cutv42 r2 (by omega) w)
        go_wp2_with fail
        refine (M40.out _).mono ?_
        rintro e w2 ⟨rfl, hb2⟩
        have HM2 := Lib.hid (HM1.out.later hb2)
        clear hb2
        go_wp2_with fail
        refine (M41.out _).mono ?_
        rintro e w' ⟨rfl, rfl⟩
        go_wp2_with fail
        refine (M42.out _).mono ?_
        rintro e w3 ⟨hb3, hcv⟩
        have HM3 := Lib.hid (HM2.out.later hb3)
        clear hb3 hlt hg hem h0i h1i htl
        obtain ⟨ve, hve⟩ : ∃ ve, vEnd r2 = ve := ⟨_, rfl⟩
        rw [hve] at hcv
        have HVE := Lib.hid hve
        clear hve
        cases ve with
        | none =>
          obtain ⟨sa, sb, rfl⟩ := hcv
          have HP : Hid (R = (2, none)) := Lib.hid (by rw [HR.out, fp_noend HS.out HSB.out HVE.out, finP_err (by decide)])
          go_wp2_with fail
          go_step3
          refine HJ0.out _ _ ?_
          exact ⟨⟨rfl, rfl, rfl, rfl, rfl⟩, 2, rfl, HP.out, HM3.out.res, HM3.out.bel⟩
        | some q =>
          simp only at hcv
          subst hcv
          have hq := vEnd_le HVE.out
          obtain ⟨vk, vb, vt, er, hval, hvb⟩ := HVV.out.f (r2.take q)
          have M22 := Lib.hid (HVV.out.v (r2.take q) (by rw [List.length_take]; omega) w3 HM3.out.bel)
          rw [hval] at M22
          unfold val at M22
          simp only at M22
          have HVAL : Hid (V ((61 :: r2).tail.take q) = (val vk vb vt, er)) := Lib.hid hval
          have HVB := Lib.hid hvb
          obtain ⟨rd, hrd⟩ : ∃ rd, r2.drop q = rd := ⟨_, rfl⟩
          have hrl : rd.length ≤ r2.length := by rw [← hrd, List.length_drop]; omega
          have HRD := Lib.hid hrd
          rw [hrd]
          clear hval hvb hrd hq
          go_wp2_with fail
          refine M22.out.mono ?_
          rintro e w4 ⟨rfl, hb4⟩
          have hm4 := HM3.out.later hb4
          have HM4 := Lib.hid hm4
          obtain ⟨k0, b0, t0, v0, v1, v2, z0, z1, z2⟩ := hm4.vcells
          have hm5 := hm4.setVal vk vb vt
          have HM5 := Lib.hid hm5
          clear hb4 hm4 hm5
          by_cases her : er = 0
          · subst her
            have HG5 := Lib.hid ((HM4.out).setVal_at vk vb vt)
            have HRR : Hid (R = finP name tags (nextP V now n fields (fields ++ [(ofL kb, vk, vb, vt)]) rd)) := Lib.hid (by
                rw [HR.out, fp_ok HS.out HSB.out HVE.out (by rw [HVAL.out]), HVAL.out, valF_val, List.tail_cons, HRD.out])
            go_upto_region 24 with (fail)
            refine wp_gen (fun wx => PMem name tags fields v vf now w wx ∧ wx.heap[w.heap.size + 2]? = some (.cells #[.int .i64 vk, .int .u64 vb, .string vt] 53 (0, 0))) ⟨HM5.out, HG5.out⟩ ?_
            clear HM5 HG5 HM4 v0 v1 v2 z0 z1 z2
            rintro w5 ⟨hm5, hg5⟩
            have HM5 := Lib.hid hm5
            obtain ⟨d0, d1, d2, d3⟩ := hm5.cells
            have v0 : w5.cell? ⟨w.heap.size + 2, 0, none⟩ = some (.int .i64 vk) := Lib.cell_of_heap hg5 0
            have v1 : w5.cell? ⟨w.heap.size + 2, 1, none⟩ = some (.int .u64 vb) := Lib.cell_of_heap hg5 1
            have v2 : w5.cell? ⟨w.heap.size + 2, 2, none⟩ = some (.string vt) := Lib.cell_of_heap hg5 2
            obtain ⟨fa, fc, hvf⟩ := hm5.rf.slice
            subst hvf
            have hsz5 := hm5.size
            obtain ⟨i0, hi, hz0, hz1, hz2⟩ := info_parts info64
            have HI := Lib.hid hi
            have HZ0 := Lib.hid hz0
            have HZ1 := Lib.hid hz1
            have HZ2 := Lib.hid hz2
            clear hi hz0 hz1 hz2 hm5 hg5
            go_upto_region 25 with ((at_builtin; go_must (refine wpList_append_own_at _ rfl (.tmp 130) (.tmp 134) 25 rfl (w.heap.size + 3) 64 i0 _ 4 48 Tryz.underlying25 HI.out HZ0.out HZ1.out HZ2.out rfl (by omega) _ fields.length _ rfl (World.ownsRow.alloc HM5.out.rf _) ⟨w5.heap.size, 0, none⟩ 1 1 [.string (ofL kb), .int .i64 vk, .int .u64 vb, .string vt] rfl rfl (World.news_of_block (cs := #[.string (ofL kb), .int .i64 vk, .int .u64 vb, .string vt]) (t := 64) (fr := (0, 0)) (heap_alloc_new w5 _)) (by simp [Value.oneCell']) (by unfold maxLen; omega) (by omega) (by simp; omega) ?_); intro vn w6 hown1 hgrow1 hnn hat; clear hnn; obtain ⟨gv, cv, rfl, _, _⟩ := hown1.form (by omega); have hg6 := HM5.out.grownF hgrow1; have d6 : w6.cell? ⟨w.heap.size + 1, 2, none⟩ = some (.slice fa fields.length fc) := (Lib.cell_of_heap hg6.2.1 2); have z6 : w6.frozen? ⟨w.heap.size + 1, 2, none⟩ = false := (Lib.frozen_of_heap hg6.2.1 2); have HMA := Lib.hid (HM5.out.appendF (p := (ofL kb, vk, vb, vt)) hgrow1 hat hown1 rfl rfl); clear hown1 hgrow1 hat hg6))
            refine wp_gen (fun wx => PMem name tags (fields ++ [(ofL kb, vk, vb, vt)]) v (.slice (some ⟨gv, 0, none⟩) (fields.length + 1) cv) now w wx) HMA.out ?_
            clear HMA d6 z6 d0 d1 d2 d3 v0 v1 v2 hsz5 HM5
            intro w7 hm7
            have HM7 := Lib.hid hm7
            have HOK : Hid (Okay L name tags (fields ++ [(ofL kb, vk, vb, vt)])) := Lib.hid ⟨hn1, HN2.out, fun p hp => by
              rcases List.mem_append.1 hp with hp | hp
              · exact HN3.out p hp
              · simp at hp
                subst hp
                exact ⟨name_sized HBN.out, HVB.out⟩, hn4, by simp; omega⟩
            rcases list_cases rd with hrd | ⟨c2, r3, hrd⟩
            · have he0 := bs_nil hrd
              have HP : Hid (R = finP name tags (0, fields ++ [(ofL kb, vk, vb, vt)], now)) := Lib.hid (by rw [HRR.out, hrd]; rfl)
              clear hrd hm7
              go_wp2_with fail
              go_step3
              refine HJ3.out _ _ ?_
              exact ⟨⟨rfl, rfl, rfl, rfl, rfl⟩, rfl, _, _, _, _, _, _, HM7.out, HOK.out, HP.out⟩
            · obtain ⟨hlt, hg, hem, h0i, h1i, htl⟩ := bs_head hrd
              have hl3 : r3.length + 1 = rd.length := by rw [hrd]; rfl
              by_cases h44 : c2 = 44
              · have c44 : ((c2.toNat : Int) == 44) = true := byte_eq c2 44 (by decide) h44
                have HP : Hid (R = finP name tags (fieldsP V now n (fields ++ [(ofL kb, vk, vb, vt)]) r3)) := Lib.hid (by rw [HRR.out, hrd, nextP, if_pos h44])
                have HRDD := Lib.hid hrd
                clear hrd hm7 h44 htl
                go_wp2_with fail
                go_step3
                refine HJ1.out _ _ r3.length (by omega) ?_
                exact ⟨⟨rfl, rfl, rfl, rfl, rfl⟩, rfl, name, tags, _, v, _, c2, r3, n, by rw [← HRDD.out]; rfl, HM7.out, HOK.out, by simp; omega, by omega, Nat.le_refl _, HP.out⟩
              · have c44 : ((c2.toNat : Int) == 44) = false := byte_ne c2 44 (by decide) h44
                by_cases h32 : c2 = 32
                · have c32 : ((c2.toNat : Int) != 32) = false := by rw [h32]; rfl
                  have HP : Hid (R = finP name tags ((PF.intP r3).2, fields ++ [(ofL kb, vk, vb, vt)], (PF.intP r3).1)) := Lib.hid (by rw [HRR.out, hrd, nextP, if_neg h44, if_pos h32])
                  have M43 := Lib.hid (HVV.out.i r3 (by omega) w7 hm7.bel)
                  obtain ⟨x, hx⟩ : ∃ x, PF.intP r3 = x := ⟨_, rfl⟩
                  rw [hx] at M43 HP
                  obtain ⟨tv, er⟩ := x
                  simp only at M43 HP
                  clear hrd hm7 h44 h32 hx
                  go_wp2_with fail
                  refine M43.out.mono ?_
                  rintro e w8 ⟨rfl, hb8⟩
                  have hm8 := HM7.out.later hb8
                  obtain ⟨d0, d1, d2, d3⟩ := hm8.cells
                  obtain ⟨z0, z1, z2, z3⟩ := hm8.frees
                  have HM8 := Lib.hid (hm8.setTime tv)
                  clear hb8 hm8
                  by_cases her : er = 0
                  · subst her
                    go_wp2_with fail
                    go_step3
                    rename_i K hK
                    refine hK _ _ (pass_end hL (rets_jumps HRET.out) _ rfl _ _ ?_)
                    exact ⟨⟨rfl, rfl, rfl, rfl, rfl⟩, rfl, _, _, _, _, _, _, HM8.out, HOK.out, HP.out⟩
                  · have hne : (er != 0) = true := by rw [bne_iff_ne]; exact her
                    have HP2 : Hid (R = (er, none)) := Lib.hid (by rw [HP.out, finP_err her])
                    clear her
                    go_wp2_with fail
                    go_step3
                    refine HJ0.out _ _ ?_
                    exact ⟨⟨rfl, rfl, rfl, rfl, rfl⟩, er, rfl, HP2.out, HM8.out.res, HM8.out.bel⟩
                · have c32 : ((c2.toNat : Int) != 32) = true := byte_bne c2 32 (by decide) h32
                  have HP : Hid (R = (2, none)) := Lib.hid (by rw [HRR.out, hrd, nextP, if_neg h44, if_neg h32, finP_err (by decide)])
                  clear hrd hm7 h44 h32
                  go_wp2_with fail
                  go_step3
                  refine HJ0.out _ _ ?_
                  exact ⟨⟨rfl, rfl, rfl, rfl, rfl⟩, 2, rfl, HP.out, HM7.out.res, HM7.out.bel⟩
          · have hne : (er != 0) = true := by rw [bne_iff_ne]; exact her
            have HP : Hid (R = (er, none)) := Lib.hid (by rw [HR.out, fp_err HS.out HSB.out HVE.out (by rw [HVAL.out]; exact her), HVAL.out, finP_err her])
            clear her
            go_wp2_with fail
            go_step3
            refine HJ0.out _ _ ?_
            exact ⟨⟨rfl, rfl, rfl, rfl, rfl⟩, er, rfl, HP.out, HM5.out.res, HM5.out.bel⟩
end Go.Proofs.YtagiddbfhlokcaaGreatDoor.Ser
