/- Several texts of this proof, laid together. Conditions: as each says. -/
import Derived.Test.YtagiddbfhlokcaaGreatDoorTBF
import Derived.Deep.Cut
import Derived.Deep.CutRange
import Derived.BigRegion
import Derived.WalkMore
/- The reference's way to put a row in order: the walk. No condition. -/
namespace Go.Proofs.YtagiddbfhlokcaaGreatDoor.Ser
open Go.RowKit Go.Sort
set_option maxRecDepth 100000
theorem rowOk_big {name : ByteArray} {tags : List Tg} {fields : List Fd} (h : 8 < tags.length ∨ 16 < fields.length) : rowOk name (srt keyT tags) (srt keyF fields) = false := by
  have h1 := (srt_perm keyT tags).length_eq
  have h2 := (srt_perm keyF fields).length_eq
  cases e : rowOk name (srt keyT tags) (srt keyF fields) with
  | false => rfl
  | true =>
    unfold rowOk formedB at e
    simp only [Bool.and_eq_true, decide_eq_true_eq] at e
    omega
theorem finP_big {name : ByteArray} {tags : List Tg} {fields : List Fd} {tm : Int} (h : 8 < tags.length ∨ 16 < fields.length) : finP name tags (0, fields, tm) = (2, none) := by
  unfold finP
  rw [if_pos rfl, rowOk_big h]; rfl
/-- Four stores into the result's block. -/
theorem SMem.out {B : Nat} {name : ByteArray} {tags : List Tg} {fields : List Fd} {v vf : Value} {tm : Int} {w wr : World} (h : SMem B name tags fields v vf tm w wr) (x y z u : Value) {R : LR} {er : Int} (hR : R.1 = er)
    (ha : match R.2 with | none => (x, y, z, u) = (.string ⟨#[]⟩, .slice none 0 0, .slice none 0 0, .int .i64 0) | some r => (x, y, z, u) = (.string r.1, v, vf, .int .i64 r.2.2.2) ∧ r.2.1 = tags ∧ r.2.2.1 = fields) :
    RowPostB R B w (.returned (.tuple #[.agg #[x, y, z, u], .int .i64 er])) ((((wr.setCell ⟨w.heap.size + 1, 0, none⟩ x).setCell ⟨w.heap.size + 1, 1, none⟩ y).setCell ⟨w.heap.size + 1, 2, none⟩ z).setCell ⟨w.heap.size + 1, 3, none⟩ u) := by
  have hb := h.base
  have g1 : wr.grownBy _ (some (w.heap.size + 1)) := grown_trans (grown_trans (grown_trans (grown_set wr ⟨w.heap.size + 1, 0, none⟩ x rfl) (grown_set _ ⟨w.heap.size + 1, 1, none⟩ y rfl)) (grown_set _ ⟨w.heap.size + 1, 2, none⟩ z rfl)) (grown_set _ ⟨w.heap.size + 1, 3, none⟩ u rfl)
  refine ⟨h.bel.grown g1 (by have := h.size; omega) (fun k hk => by cases hk; omega), ?_⟩
  subst hR
  cases hr : R.2 with
  | none => rw [hr] at ha; simp only at ha ⊢; cases ha; rfl
  | some r =>
    rw [hr] at ha
    obtain ⟨ha, rfl, rfl⟩ := ha
    cases ha
    refine ⟨v, vf, rfl, h.rt.kept g1 ?_, h.rf.kept g1 ?_, h.ap⟩
    · cases hv : v.ownBlock with
      | none => exact .inl rfl
      | some g => exact .inr fun e => by have := h.lt g hv; cases e; omega
    · cases hv : vf.ownBlock with
      | none => exact .inl rfl
      | some g => exact .inr fun e => by have := h.lf g hv; cases e; omega
theorem SMem.swapT {B : Nat} {name : ByteArray} {fields : List Fd} {vf : Value} {tm : Int} {w wr : World} {A' Z : List Tg} {y x : Tg} {g n cap p q : Nat} (h : SMem B name (A' ++ [y] ++ x :: Z) fields (.slice (some ⟨g, 0, none⟩) n cap) vf tm w wr)
    (hn : (A' ++ [y] ++ x :: Z).length = n) (hp : A'.length = p) (hq : q = p + 1) :
    SMem B name (A' ++ x :: (y :: Z)) fields (.slice (some ⟨g, 0, none⟩) n cap) vf tm w ((((wr.setCell ⟨g, p * 2, none⟩ (.string x.1)).setCell ⟨g, p * 2 + 1, none⟩ (.string x.2)).setCell ⟨g, q * 2, none⟩ (.string y.1)).setCell ⟨g, q * 2 + 1, none⟩ (.string y.2)) := by
  subst hq
  have e : A' ++ [y] ++ x :: Z = A' ++ y :: x :: Z := by simp
  rw [e] at h hn
  subst hn
  exact h.setT (RT.swap h.rt hp) (grown_trans (grown_trans (grown_trans (grown_set wr _ _ rfl) (grown_set _ _ _ rfl)) (grown_set _ _ _ rfl)) (grown_set _ _ _ rfl))
theorem SMem.swapF {B : Nat} {name : ByteArray} {tags : List Tg} {v : Value} {tm : Int} {w wr : World} {A' Z : List Fd} {y x : Fd} {g n cap p q : Nat} (h : SMem B name tags (A' ++ [y] ++ x :: Z) v (.slice (some ⟨g, 0, none⟩) n cap) tm w wr)
    (hn : (A' ++ [y] ++ x :: Z).length = n) (hp : A'.length = p) (hq : q = p + 1) :
    SMem B name tags (A' ++ x :: (y :: Z)) v (.slice (some ⟨g, 0, none⟩) n cap) tm w ((((((((wr.setCell ⟨g, p * 4, none⟩ (.string x.1)).setCell ⟨g, p * 4 + 1, none⟩ (.int .i64 x.2.1)).setCell ⟨g, p * 4 + 2, none⟩ (.int .u64 x.2.2.1)).setCell ⟨g, p * 4 + 3, none⟩ (.string x.2.2.2)).setCell ⟨g, q * 4, none⟩ (.string y.1)).setCell ⟨g, q * 4 + 1, none⟩ (.int .i64 y.2.1)).setCell ⟨g, q * 4 + 2, none⟩ (.int .u64 y.2.2.1)).setCell ⟨g, q * 4 + 3, none⟩ (.string y.2.2.2)) := by
  subst hq
  have e : A' ++ [y] ++ x :: Z = A' ++ y :: x :: Z := by simp
  rw [e] at h hn
  subst hn
  exact h.setF (RF.swap h.rf hp) (grown_trans (grown_trans (grown_trans (grown_trans (grown_trans (grown_trans (grown_trans (grown_set wr _ _ rfl) (grown_set _ _ _ rfl)) (grown_set _ _ _ rfl)) (grown_set _ _ _ rfl)) (grown_set _ _ _ rfl)) (grown_set _ _ _ rfl)) (grown_set _ _ _ rfl)) (grown_set _ _ _ rfl))
theorem SMem.tag {B : Nat} {name : ByteArray} {tags : List Tg} {fields : List Fd} {vf : Value} {tm : Int} {w wr : World} {g n cap i : Nat} (h : SMem B name tags fields (.slice (some ⟨g, 0, none⟩) n cap) vf tm w wr) (hn : tags.length = n) (hi : i < n) :
    wr.cell? ⟨g, i * 2, none⟩ = some (.string (kOf tags i)) ∧ wr.cell? ⟨g, i * 2 + 1, none⟩ = some (.string (vOf tags i)) ∧ wr.frozen? ⟨g, i * 2, none⟩ = false ∧ wr.frozen? ⟨g, i * 2 + 1, none⟩ = false := by
  obtain ⟨e0, e1⟩ := encT_get tags i (by omega)
  have hr := h.rt
  unfold RT at hr
  rw [hn] at hr
  obtain ⟨c0, f0⟩ := own_cell hr e0 (by omega)
  obtain ⟨c1, f1⟩ := own_cell hr e1 (by omega)
  exact ⟨c0, c1, f0, f1⟩
theorem SMem.field {B : Nat} {name : ByteArray} {tags : List Tg} {fields : List Fd} {v : Value} {tm : Int} {w wr : World} {g n cap i : Nat} (h : SMem B name tags fields v (.slice (some ⟨g, 0, none⟩) n cap) tm w wr) (hn : fields.length = n) (hi : i < n) :
    wr.cell? ⟨g, i * 4, none⟩ = some (.string (fE fields i).1) ∧ wr.cell? ⟨g, i * 4 + 1, none⟩ = some (.int .i64 (fE fields i).2.1) ∧ wr.cell? ⟨g, i * 4 + 2, none⟩ = some (.int .u64 (fE fields i).2.2.1) ∧ wr.cell? ⟨g, i * 4 + 3, none⟩ = some (.string (fE fields i).2.2.2) ∧
      wr.frozen? ⟨g, i * 4, none⟩ = false ∧ wr.frozen? ⟨g, i * 4 + 1, none⟩ = false ∧ wr.frozen? ⟨g, i * 4 + 2, none⟩ = false ∧ wr.frozen? ⟨g, i * 4 + 3, none⟩ = false := by
  obtain ⟨e0, e1, e2, e3⟩ := encF_get fields i (by omega)
  have hr := h.rf
  unfold RF at hr
  rw [hn] at hr
  obtain ⟨c0, f0⟩ := own_cell hr e0 (by omega)
  obtain ⟨c1, f1⟩ := own_cell hr e1 (by omega)
  obtain ⟨c2, f2⟩ := own_cell hr e2 (by omega)
  obtain ⟨c3, f3⟩ := own_cell hr e3 (by omega)
  exact ⟨c0, c1, c2, c3, f0, f1, f2, f3⟩
theorem kOf_mid {A' Z : List Tg} {y x : Tg} {p q : Nat} (hp : A'.length = p) (hq : q = p + 1) : (kOf (A' ++ [y] ++ x :: Z) p = y.1 ∧ vOf (A' ++ [y] ++ x :: Z) p = y.2) ∧ (kOf (A' ++ [y] ++ x :: Z) q = x.1 ∧ vOf (A' ++ [y] ++ x :: Z) q = x.2) := by
  subst hp hq
  have e0 : (A' ++ [y] ++ x :: Z)[A'.length]? = some y := by simp
  have e1 : (A' ++ [y] ++ x :: Z)[A'.length + 1]? = some x := by simp
  refine ⟨⟨?_, ?_⟩, ⟨?_, ?_⟩⟩ <;> simp only [kOf, vOf, List.getD_eq_getElem?_getD, e0, e1, Option.getD_some]
theorem fE_mid {A' Z : List Fd} {y x : Fd} {p q : Nat} (hp : A'.length = p) (hq : q = p + 1) : fE (A' ++ [y] ++ x :: Z) p = y ∧ fE (A' ++ [y] ++ x :: Z) q = x := by
  subst hp hq
  have e0 : (A' ++ [y] ++ x :: Z)[A'.length]? = some y := by simp
  have e1 : (A' ++ [y] ++ x :: Z)[A'.length + 1]? = some x := by simp
  refine ⟨?_, ?_⟩ <;> simp only [fE, List.getD_eq_getElem?_getD, e0, e1, Option.getD_some]
set_option maxHeartbeats 16000000 in
theorem sorted38 {L : Nat} (hL : L ≤ 1073741824) (B : Nat) (name : ByteArray) (tags : List Tg) (fields : List Fd) (v vf : Value) (tm : Int) (w : World) (hb : B ≤ w.heap.size) (hrt : RT w B v tags) (hrf : RF w B vf fields)
    (hap : ∀ g, v.ownBlock = some g → vf.ownBlock ≠ some g) (hok : Okay L name tags fields) : Calls Tryz.prog 38 #[.agg #[.string name, v, vf, .int .i64 tm]] w (RowPostB (finP name tags (0, fields, tm)) B w) := by
  obtain ⟨hn1, hn2, hn3, hn4, hn5⟩ := hok
  have HS0 := Lib.hid (SMem.start (name := name) (tm := tm) hb hrt hrf hap)
  obtain ⟨a1, c1, hv1⟩ := hrt.slice
  obtain ⟨a2, c2, hv2⟩ := hrf.slice
  subst hv1 hv2
  obtain ⟨nT, hnT⟩ : ∃ n, tags.length = n := ⟨_, rfl⟩
  obtain ⟨nF, hnF⟩ : ∃ n, fields.length = n := ⟨_, rfl⟩
  obtain ⟨R, hR⟩ : ∃ R, finP name tags (0, fields, tm) = R := ⟨_, rfl⟩
  rw [hR]
  rw [hnT] at HS0 hn4 ⊢
  rw [hnF] at HS0 hn5 ⊢
  have HR := Lib.hid hR
  have HNT := Lib.hid hnT
  have HNF := Lib.hid hnF
  have HN1 := Lib.hid hn1
  have HN2 := Lib.hid hn2
  have HN3 := Lib.hid hn3
  have HB := Lib.hid hb
  clear hR hnT hnF hn1 hn2 hn3 hb hrt hrf hap
  go_enter Tryz.func38, Tryz.ntmps38
  go_upto_region 1 with (fail)
  refine wp_gen (fun wx => SMem B name tags fields _ _ tm w wx) HS0.out ?_
  intro wr hm
  obtain ⟨d0, d1, d2, d3⟩ := hm.cells
  obtain ⟨q0, q1, q2, q3, z0, z1, z2, z3⟩ := hm.rcells
  have HM := Lib.hid hm
  clear hm HS0
  have HBAD : Hid (R = (2, none) → ∀ wx, SMem B name tags fields (.slice a1 nT c1) (.slice a2 nF c2) tm w wx → RowPostB R B w (.returned (.tuple #[.agg #[.string ⟨#[]⟩, .slice none 0 0, .slice none 0 0, .int .i64 0], .int .i64 2])) ((((wx.setCell ⟨w.heap.size + 1, 0, none⟩ (.string ⟨#[]⟩)).setCell ⟨w.heap.size + 1, 1, none⟩ (.slice none 0 0)).setCell ⟨w.heap.size + 1, 2, none⟩ (.slice none 0 0)).setCell ⟨w.heap.size + 1, 3, none⟩ (.int .i64 0))) :=
    Lib.hid (fun h wx hx => by subst h; exact hx.out _ _ _ _ rfl rfl)
  by_cases h8 : 8 < nT
  · have g8 : (8 : Int) < (nT : Int) := by omega
    have HG := Lib.hid h8
    clear h8
    go_wp2_with fail
    exact bodyPost_ret (results38 rfl (four _ _ _ _ HM.out.res)) rfl (HBAD.out (by rw [← HR.out]; exact finP_big (.inl (by rw [HNT.out]; exact HG.out))) _ HM.out)
  · have g8 : (nT : Int) ≤ 8 := by omega
    have HG := Lib.hid h8
    clear h8
    by_cases h16 : 16 < nF
    · have g16 : (16 : Int) < (nF : Int) := by omega
      have HG2 := Lib.hid h16
      clear h16
      go_wp2_with fail
      exact bodyPost_ret (results38 rfl (four _ _ _ _ HM.out.res)) rfl (HBAD.out (by rw [← HR.out]; exact finP_big (.inr (by rw [HNF.out]; exact HG2.out))) _ HM.out)
    · have g16 : (nF : Int) ≤ 16 := by omega
      have HG2 := Lib.hid h16
      clear h16
      have HOUT : Hid (∀ k A x C D wx, k < nT → Ins keyT tags k A x C D → Weak keyT (A ++ x :: C) → SMem B name (A ++ x :: (C ++ D)) fields (.slice a1 nT c1) (.slice a2 nF c2) tm w wx → OutT B name tags fields (.slice a1 nT c1) (.slice a2 nF c2) tm w (.int .i64 ((k : Int) + 1)) wx) :=
        Lib.hid (fun k A x C D wx hk => outT_done (by rw [HNT.out]; exact hk))
      go_wp2_with fail
      clear q0 q1 q2 q3 z0 z1 z2 z3 d0 d1 d2 d3
      go_loopw [24] (fun i wx => OutT B name tags fields (.slice a1 nT c1) (.slice a2 nF c2) tm w i wx) (fun i _ => nT - (intOf i).toNat)
      case atStart => exact ⟨tags, 0, rfl, Nat.zero_le _, List.Perm.refl _, List.Pairwise.nil, HM.out⟩
      case round =>
        obtain ⟨ts, k, rfl, hk, hp, hwk, hmx⟩ := hrel
        rename World => wo
        rw [HNT.out] at hk
        by_cases hlt : k < nT
        · have HMX := Lib.hid hmx
          have HP := Lib.hid hp
          have HWK := Lib.hid hwk
          have hkz : (k : Int) < (nT : Int) := by omega
          have HK := Lib.hid hlt
          clear hmx hp hwk hk hlt
          go_wp2_with fail
          go_loopw [5] (fun j wx => InT B name tags fields (.slice a1 nT c1) (.slice a2 nF c2) tm w k j wx) (fun j _ => (intOf j).toNat)
          case atStart => exact insT_start (by rw [HNT.out]; exact HK.out) HP.out HWK.out HMX.out
          case round =>
            obtain ⟨A, x, C, D, rfl, hI, hmi⟩ := hrel
            rename World => wi
            obtain ⟨d0, d1, d2, d3⟩ := hmi.cells
            have hlen : (A ++ x :: (C ++ D)).length = nT := hI.pm.length_eq.trans HNT.out
            rcases List.eq_nil_or_concat A with rfl | ⟨A', y, hA⟩
            · have hd : decide ((0 : Nat) < 0) = false := by decide
              have HMI := Lib.hid hmi
              have HI := Lib.hid hI
              clear hmi hI hlen
              go_wp2_with fail
              go_quiet (fail)
              go_wp2_with fail
              refine ⟨HOUT.out _ _ _ _ _ _ HK.out HI.out (by rw [List.nil_append]; exact HI.out.stop0) (HMI.out.later (below_drewN (Below.refl _ _) _)), ?_⟩
              simp [intOf]; omega
            · rw [List.concat_eq_append] at hA
              subst hA
              obtain ⟨p, hpl⟩ : ∃ p, A'.length = p := ⟨_, rfl⟩
              obtain ⟨q, hq⟩ : ∃ q, (A' ++ [y]).length = q := ⟨_, rfl⟩
              have hqp : q = p + 1 := by rw [← hq, ← hpl]; simp
              rw [hq]
              obtain ⟨g, cap', hv, _, hlg⟩ := hmi.rt.form (by rw [hlen]; omega)
              injection hv with hv hv1 hv2
              clear hv1 hv2
              subst hv
              have hqn : q < nT := by
                have := hlen
                simp at this hq
                omega
              obtain ⟨⟨k0, _⟩, ⟨k1, _⟩⟩ := kOf_mid (y := y) (x := x) (Z := C ++ D) hpl hqp
              obtain ⟨g0, _⟩ := hmi.tag hlen (show p < nT by omega)
              obtain ⟨g1, _⟩ := hmi.tag hlen hqn
              rw [k0] at g0
              rw [k1] at g1
              have hq0 : (1 : Int) ≤ (q : Int) := by omega
              have hq1 : (q : Int) - 1 < (nT : Int) := by omega
              have hq2 : ((q : Int) - 1).toNat = p := by omega
              have hq3 : IntKind.i64.wrap ((q : Int) - 1) = (q : Int) - 1 := IntWalk.i64_in _ (by omega)
              have hq4 : (q : Int) < (nT : Int) := by omega
              have hd : decide (0 < q) = true := by simp; omega
              have HMI := Lib.hid hmi
              have HI := Lib.hid hI
              have HQ := Lib.hid hqp
              have HPL := Lib.hid hpl
              have HLEN := Lib.hid hlen
              have HQN := Lib.hid hqn
              have HHQ := Lib.hid hq
              clear hmi hI hlen hq hqp hpl hqn k0 k1
              by_cases hgt : y.1.data.toList > x.1.data.toList
              · obtain ⟨b1, b2⟩ := gt_yes hgt
                have HGT := Lib.hid hgt
                clear hgt
                go_wp2_with fail
                go_quiet (fail)
                go_upto_region 9 with (fail)
                refine wp_gen (fun wx => SMem B name (A' ++ [y] ++ x :: (C ++ D)) fields _ _ tm w wx) (HMI.out.later (below_drewN (Below.refl _ _) _)) ?_
                clear g0 g1 d0 d1 d2 d3
                intro wj hmj
                obtain ⟨d0, d1, d2, d3⟩ := hmj.cells
                obtain ⟨g0, g1, g2, g3⟩ := hmj.tag HLEN.out (show p < nT by have := HQ.out; have := HQN.out; omega)
                obtain ⟨g4, g5, g6, g7⟩ := hmj.tag HLEN.out HQN.out
                obtain ⟨⟨k0, k1⟩, ⟨k2, k3⟩⟩ := kOf_mid (y := y) (x := x) (Z := C ++ D) HPL.out HQ.out
                rw [k0] at g0
                rw [k1] at g1
                rw [k2] at g4
                rw [k3] at g5
                have n1 : ¬ g = w.heap.size := by have := hmj.lt g rfl; omega
                have n2 : ¬ w.heap.size = g := by have := hmj.lt g rfl; omega
                have HMJ := Lib.hid hmj
                clear hmj k0 k1 k2 k3
                go_region
                go_upto_region 8 with (fail)
                refine wp_gen (fun wx => SMem B name (A' ++ x :: (y :: (C ++ D))) fields _ _ tm w wx) ((HMJ.out.swapT HLEN.out HPL.out HQ.out).later (Below.refl _ _).drew) ?_
                clear g0 g1 g2 g3 g4 g5 g6 g7 d0 d1 d2 d3
                intro wk hmk
                have HMK := Lib.hid hmk
                clear hmk
                go_wp2_with fail
                refine ⟨⟨A', x, y :: C, D, ?_, HI.out.swap HGT.out, HMK.out⟩, ?_⟩
                · rw [HPL.out, HQ.out]; go_num
                · simp [intOf]; omega
              · rcases gt_no hgt with b1 | ⟨b1, b2⟩
                · have HGT := Lib.hid hgt
                  clear hgt
                  go_wp2_with fail
                  go_quiet (fail)
                  go_wp2_with fail
                  refine ⟨HOUT.out _ _ _ _ _ _ HK.out HI.out (HI.out.stop HGT.out) (HMI.out.later (below_drewN (Below.refl _ _) _)), ?_⟩
                  simp [intOf]; omega
                · have HGT := Lib.hid hgt
                  clear hgt
                  go_wp2_with fail
                  go_quiet (fail)
                  go_wp2_with fail
                  refine ⟨HOUT.out _ _ _ _ _ _ HK.out HI.out (HI.out.stop HGT.out) (HMI.out.later (below_drewN (Below.refl _ _) _)), ?_⟩
                  simp [intOf]; omega
        · have HP := Lib.hid hp
          have hke : k = nT := by omega
          have hwt : Weak keyT ts := by
            have := hp.length_eq.trans HNT.out
            rw [hke, List.take_of_length_le (by omega)] at hwk
            exact hwk
          have HWK := Lib.hid hwt
          have HMT := Lib.hid hmx
          obtain ⟨d0, d1, d2, d3⟩ := hmx.cells
          clear hp hwk hmx hwt hk
          have hke2 : ¬ (k : Int) < (nT : Int) := by omega
          clear hlt hke
          have HOUTF : Hid (∀ k A x C D wx, k < nF → Ins keyF fields k A x C D → Weak keyF (A ++ x :: C) → SMem B name ts (A ++ x :: (C ++ D)) (.slice a1 nT c1) (.slice a2 nF c2) tm w wx → OutF B name ts fields (.slice a1 nT c1) (.slice a2 nF c2) tm w (.int .i64 ((k : Int) + 1)) wx) :=
            Lib.hid (fun k A x C D wx hk => outF_done (by rw [HNF.out]; exact hk))
          go_wp2_with fail
          clear d0 d1 d2 d3
          go_loopw [78] (fun i wx => OutF B name ts fields (.slice a1 nT c1) (.slice a2 nF c2) tm w i wx) (fun i _ => nF - (intOf i).toNat)
          case atStart => exact ⟨fields, 0, rfl, Nat.zero_le _, List.Perm.refl _, List.Pairwise.nil, HMT.out⟩
          case round =>
            obtain ⟨fs, k, rfl, hk, hp, hwk, hmx⟩ := hrel
            rename World => wo2
            rw [HNF.out] at hk
            by_cases hlt : k < nF
            · have HMX := Lib.hid hmx
              have HPF := Lib.hid hp
              have HWKF := Lib.hid hwk
              have hkz : (k : Int) < (nF : Int) := by omega
              have HK := Lib.hid hlt
              clear hmx hp hwk hk hlt
              go_wp2_with fail
              go_loopw [7] (fun j wx => InF B name ts fields (.slice a1 nT c1) (.slice a2 nF c2) tm w k j wx) (fun j _ => (intOf j).toNat)
              case atStart => exact insF_start (by rw [HNF.out]; exact HK.out) HPF.out HWKF.out HMX.out
              case round =>
                obtain ⟨A, x, C, D, rfl, hI, hmi⟩ := hrel
                rename World => wi
                obtain ⟨d0, d1, d2, d3⟩ := hmi.cells
                have hlen : (A ++ x :: (C ++ D)).length = nF := hI.pm.length_eq.trans HNF.out
                rcases List.eq_nil_or_concat A with rfl | ⟨A', y, hA⟩
                · have hd : decide ((0 : Nat) < 0) = false := by decide
                  have HMI := Lib.hid hmi
                  have HI := Lib.hid hI
                  clear hmi hI hlen
                  go_wp2_with fail
                  go_quiet (fail)
                  go_wp2_with fail
                  refine ⟨HOUTF.out _ _ _ _ _ _ HK.out HI.out (by rw [List.nil_append]; exact HI.out.stop0) (HMI.out.later (below_drewN (Below.refl _ _) _)), ?_⟩
                  simp [intOf]; omega
                · rw [List.concat_eq_append] at hA
                  subst hA
                  obtain ⟨p, hpl⟩ : ∃ p, A'.length = p := ⟨_, rfl⟩
                  obtain ⟨q, hq⟩ : ∃ q, (A' ++ [y]).length = q := ⟨_, rfl⟩
                  have hqp : q = p + 1 := by rw [← hq, ← hpl]; simp
                  rw [hq]
                  obtain ⟨g, cap', hv, _, hlg⟩ := hmi.rf.form (by rw [hlen]; omega)
                  injection hv with hv hv1 hv2
                  clear hv1 hv2
                  subst hv
                  have hqn : q < nF := by
                    have := hlen
                    simp at this hq
                    omega
                  obtain ⟨k0, k1⟩ := fE_mid (y := y) (x := x) (Z := C ++ D) hpl hqp
                  obtain ⟨g0, _⟩ := hmi.field hlen (show p < nF by omega)
                  obtain ⟨g1, _⟩ := hmi.field hlen hqn
                  rw [k0] at g0
                  rw [k1] at g1
                  have hq0 : (1 : Int) ≤ (q : Int) := by omega
                  have hq1 : (q : Int) - 1 < (nF : Int) := by omega
                  have hq2 : ((q : Int) - 1).toNat = p := by omega
                  have hq3 : IntKind.i64.wrap ((q : Int) - 1) = (q : Int) - 1 := IntWalk.i64_in _ (by omega)
                  have hq4 : (q : Int) < (nF : Int) := by omega
                  have hd : decide (0 < q) = true := by simp; omega
                  have HMI := Lib.hid hmi
                  have HI := Lib.hid hI
                  have HQ := Lib.hid hqp
                  have HPL := Lib.hid hpl
                  have HLEN := Lib.hid hlen
                  have HQN := Lib.hid hqn
                  have HHQ := Lib.hid hq
                  clear hmi hI hlen hq hqp hpl hqn k0 k1
                  by_cases hgt : y.1.data.toList > x.1.data.toList
                  · obtain ⟨b1, b2⟩ := gt_yes hgt
                    have HGT := Lib.hid hgt
                    clear hgt
                    go_wp2_with fail
                    go_quiet (fail)
                    go_upto_region 17 with (fail)
                    refine wp_gen (fun wx => SMem B name ts (A' ++ [y] ++ x :: (C ++ D)) _ _ tm w wx) (HMI.out.later (below_drewN (Below.refl _ _) _)) ?_
                    clear g0 g1 d0 d1 d2 d3
                    intro wj hmj
                    obtain ⟨d0, d1, d2, d3⟩ := hmj.cells
                    obtain ⟨g0, g1, g2, g3, g4, g5, g6, g7⟩ := hmj.field HLEN.out (show p < nF by have := HQ.out; have := HQN.out; omega)
                    obtain ⟨s0, s1, s2, s3, s4, s5, s6, s7⟩ := hmj.field HLEN.out HQN.out
                    obtain ⟨k0, k1⟩ := fE_mid (y := y) (x := x) (Z := C ++ D) HPL.out HQ.out
                    rw [k0] at g0 g1 g2 g3
                    rw [k1] at s0 s1 s2 s3
                    have n1 : ¬ g = w.heap.size := by have := hmj.lf g rfl; omega
                    have n2 : ¬ w.heap.size = g := by have := hmj.lf g rfl; omega
                    have HMJ := Lib.hid hmj
                    clear hmj k0 k1
                    go_region
                    go_upto_region 16 with (fail)
                    refine wp_gen (fun wx => SMem B name ts (A' ++ x :: (y :: (C ++ D))) _ _ tm w wx) ((HMJ.out.swapF HLEN.out HPL.out HQ.out).later (Below.refl _ _).drew) ?_
                    clear g0 g1 g2 g3 g4 g5 g6 g7 s0 s1 s2 s3 s4 s5 s6 s7 d0 d1 d2 d3
                    intro wk hmk
                    have HMK := Lib.hid hmk
                    clear hmk
                    go_wp2_with fail
                    refine ⟨⟨A', x, y :: C, D, ?_, HI.out.swap HGT.out, HMK.out⟩, ?_⟩
                    · rw [HPL.out, HQ.out]; go_num
                    · simp [intOf]; omega
                  · rcases gt_no hgt with b1 | ⟨b1, b2⟩
                    · have HGT := Lib.hid hgt
                      clear hgt
                      go_wp2_with fail
                      go_quiet (fail)
                      go_wp2_with fail
                      refine ⟨HOUTF.out _ _ _ _ _ _ HK.out HI.out (HI.out.stop HGT.out) (HMI.out.later (below_drewN (Below.refl _ _) _)), ?_⟩
                      simp [intOf]; omega
                    · have HGT := Lib.hid hgt
                      clear hgt
                      go_wp2_with fail
                      go_quiet (fail)
                      go_wp2_with fail
                      refine ⟨HOUTF.out _ _ _ _ _ _ HK.out HI.out (HI.out.stop HGT.out) (HMI.out.later (below_drewN (Below.refl _ _) _)), ?_⟩
                      simp [intOf]; omega
            · have HPF := Lib.hid hp
              have hke3 : k = nF := by omega
              have hwf : Weak keyF fs := by
                have := hp.length_eq.trans HNF.out
                rw [hke3, List.take_of_length_le (by omega)] at hwk
                exact hwk
              have HWKF := Lib.hid hwf
              have HMF := Lib.hid hmx
              obtain ⟨d0, d1, d2, d3⟩ := hmx.cells
              have hke4 : ¬ (k : Int) < (nF : Int) := by omega
              clear hp hwk hmx hwf hk hlt hke3
              go_upto_region 19 with (fail)
              have lT : ts.length = nT := HP.out.length_eq.trans HNT.out
              have lF : fs.length = nF := HPF.out.length_eq.trans HNF.out
              have hrt := HMF.out.rt
              have hrf := HMF.out.rf
              rw [← lT] at hrt
              rw [← lF] at hrf
              have MF := formed60 name a1 a2 ts.length c1 c2 tm (kOf ts) (vOf ts) fs wo2 (by omega) (by omega) HN1.out (tags_sized HP.out HN2.out) (fun p h => HN3.out p (HPF.out.mem_iff.1 h)) hrt.at hrf.at
              obtain ⟨hrow, heq⟩ := rowOk_of (name := name) HP.out HWK.out HPF.out HWKF.out
              rw [hrow, lT, lF] at MF
              have HEQ := Lib.hid heq
              obtain ⟨ok, hok2⟩ : ∃ ok, rowOk name (srt keyT tags) (srt keyF fields) = ok := ⟨_, rfl⟩
              rw [hok2] at MF HEQ
              have HMFF := Lib.hid MF
              have HRR : Hid (R = if ok = true then (0, some (name, srt keyT tags, srt keyF fields, tm)) else (2, none)) := Lib.hid (by rw [← HR.out]; unfold finP; rw [if_pos rfl, hok2])
              clear lT lF hrt hrf hrow heq hok2 MF
              go_wp2_with fail
              refine HMFF.out.mono ?_
              rintro e w4 ⟨rfl, hb4⟩
              have hm4 := HMF.out.later hb4
              clear d0 d1 d2 d3
              obtain ⟨d0, d1, d2, d3⟩ := hm4.cells
              obtain ⟨q0, q1, q2, q3, z0, z1, z2, z3⟩ := hm4.rcells
              have HM4 := Lib.hid hm4
              clear hb4 hm4
              cases ok with
              | true =>
                go_wp2_with fail
                refine bodyPost_ret (results38 rfl (four _ _ _ _ HM4.out.res)) rfl (HM4.out.out _ _ _ _ (by rw [HRR.out]; rfl) ?_)
                rw [HRR.out]
                exact ⟨rfl, (HEQ.out (by trivial)).1.symm, (HEQ.out (by trivial)).2.symm⟩
              | false =>
                go_wp2_with fail
                refine bodyPost_ret (results38 rfl (four _ _ _ _ HM4.out.res)) rfl (HM4.out.out _ _ _ _ (by rw [HRR.out]; rfl) ?_)
                rw [HRR.out]; rfl
end Go.Proofs.YtagiddbfhlokcaaGreatDoor.Ser
/- Reading a line by the program: the walk of the fields. Conditions: the text's length; the readers of values. -/
namespace Go.Proofs.YtagiddbfhlokcaaGreatDoor.Ser
open Go.RowKit Go.Sort
set_option maxRecDepth 100000
/-- The readers of values and of integers, wherever the tables lie as they did. -/
structure Readers (V : List UInt8 → Value × Int) (w : World) : Prop where
  v : ∀ l, l.length ≤ 140737488355328 → ∀ w2, Below w.heap.size w w2 → Calls Tryz.prog 22 #[.string (bs l)] w2 fun e w' => e = .returned (.tuple #[(V l).1, .int .i64 (V l).2]) ∧ Below w2.heap.size w2 w'
  i : ∀ l, l.length ≤ 140737488355328 → ∀ w2, Below w.heap.size w w2 → Calls Tryz.prog 43 #[.string (bs l)] w2 fun e w' => e = .returned (.tuple #[.int .i64 (PF.intP l).1, .int .i64 (PF.intP l).2]) ∧ Below w2.heap.size w2 w'
  f : ∀ l, ∃ k b t n, V l = (val k b t, n) ∧ 0 ≤ b ∧ b < 18446744073709551616
theorem rets_jumps {R : LR} {w : World} {Q : Exit → Act → World → Prop} {J : Nat → Act → World → Prop} (h : Rets R w Q) : Rets R w (Jumps J Q) := h
set_option maxHeartbeats 8000000 in
theorem pass_field {V : List UInt8 → Value × Int} {now : Int} {L : Nat} (hL : L ≤ 1073741824) {R : LR} {w : World} (HV : Readers V w) {m : Nat} {J : Nat → Act → World → Prop} {Q : Exit → Act → World → Prop} (hret : Rets R w Q)
    (hj0 : ∀ a w', JWrong R w a w' → J 0 a w') (hj1 : ∀ a w' m', m' < m → JField V now L R w m' a w' → J 1 a w') (hj3 : ∀ a w', JEnd L R w a w' → J 3 a w') (rest : Code)
    (hr : (Tryz.f15.body.bind firstScope).bind (findLabel · 1) = some (Code.skip.seq rest)) (a : Act) (wr : World) (hJ : JField V now L R w m a wr) : rest.wp Tryz.prog (Jumps J Q) a wr := by
  change some _ = some _ at hr
  cases hr
  obtain ⟨⟨hd0, hsz, g4, g6, g10⟩, g11, name, tags, fields, v, vf, c, r, n, g0, hm, ⟨hn1, hn2, hn3, hn4, hn5⟩, hlen, hrn, hrm, hR⟩ := hJ
  obtain ⟨fr, rfl, hf⟩ := frame_of166 a hsz hd0
  rw [hf] at g4 g6 g10 g11 g0
  rw [g4, g6, g10, g11, g0]
  obtain ⟨hlt, hg, hem, h0i, h1i, htl⟩ := bs_head (r := c :: r) rfl
  obtain ⟨n, rfl⟩ : ∃ k, n = k + 1 := ⟨n - 1, by omega⟩
  have M39 := Lib.hid (fun w => cut39 r w (by omega))
  have HM := Lib.hid hm
  have HR := Lib.hid hR
  have HRET := Lib.hid hret
  have HJ0 := Lib.hid hj0
  have HJ1 := Lib.hid hj1
  have HJ3 := Lib.hid hj3
  have HVV := Lib.hid HV
  have HN2 := Lib.hid hn2
  have HN3 := Lib.hid hn3
  clear hf hsz hd0 hR hret hj0 hj1 hj3 HV hm hn2 hn3 hg
  go_wp2_with fail
  refine (M39.out _).mono ?_
  intro e w1 hcp
  obtain ⟨b, s1, ok, rfl, hy, hno, hb1⟩ := cutPost_cases hcp
  have hm1 := HM.out.later hb1
  have HM1 := Lib.hid hm1
  clear hcp hb1 hm1 hlt hem h0i h1i htl
  cases ok with
  | false =>
    have HP : Hid (R = (2, none)) := Lib.hid (by rw [HR.out, fp_none (hno rfl), finP_err (by decide)])
    clear hy hno
    go_wp2_with fail
    go_step3
    refine HJ0.out _ _ ?_
    exact ⟨⟨rfl, rfl, rfl, rfl, rfl⟩, 2, rfl, HP.out, HM1.out.res, HM1.out.bel⟩
  | true =>
    obtain ⟨kb, r1, hs, rfl, rfl⟩ := hy rfl
    have hl1 := scan_len _ (Nat.le_refl _) hs
    simp only [List.length_nil, Nat.zero_add] at hl1
    have HS := Lib.hid hs
    have M40 := Lib.hid (fun w => name40 kb (by omega) w)
    obtain ⟨bn, hbn⟩ : ∃ b, nameB kb = b := ⟨_, rfl⟩
    rw [hbn] at M40
    have HBN := Lib.hid hbn
    obtain ⟨bq, hbq⟩ : ∃ b, headIs 61 r1 = b := ⟨_, rfl⟩
    have M41 := Lib.hid (fun w => hasP r1 61 w)
    rw [hbq] at M41
    have HBQ := Lib.hid hbq
    clear hy hno hs hbn hbq
    cases bn with
    | false =>
      have HP : Hid (R = (2, none)) := Lib.hid (by rw [HR.out, fp_bad HS.out (by rw [HBN.out]; rfl), finP_err (by decide)])
      go_wp2_with fail
      refine (M40.out _).mono ?_
      rintro e w2 ⟨rfl, hb2⟩
      have HM2 := Lib.hid (HM1.out.later hb2)
      clear hb2
      go_wp2_with fail
      go_step3
      refine HJ0.out _ _ ?_
      exact ⟨⟨rfl, rfl, rfl, rfl, rfl⟩, 2, rfl, HP.out, HM2.out.res, HM2.out.bel⟩
    | true =>
      cases bq with
      | false =>
        have HP : Hid (R = (2, none)) := Lib.hid (by rw [HR.out, fp_bad HS.out (by rw [HBQ.out, Bool.and_false]), finP_err (by decide)])
        go_wp2_with fail
        refine (M40.out _).mono ?_
        rintro e w2 ⟨rfl, hb2⟩
        have HM2 := Lib.hid (HM1.out.later hb2)
        clear hb2
        go_wp2_with fail
        refine (M41.out _).mono ?_
        rintro e w' ⟨rfl, rfl⟩
        go_wp2_with fail
        go_step3
        refine HJ0.out _ _ ?_
        exact ⟨⟨rfl, rfl, rfl, rfl, rfl⟩, 2, rfl, HP.out, HM2.out.res, HM2.out.bel⟩
      | true =>
        obtain ⟨r2, rfl⟩ : ∃ r2, r1 = 61 :: r2 := by
          have := HBQ.out
          rcases list_cases r1 with e | ⟨c, t, e⟩
          · rw [e] at this; cases this
          · rw [e] at this
            simp only [headIs, decide_eq_true_eq] at this
            exact ⟨t, by rw [e, this]⟩
        simp only [List.length_cons] at hl1
        have HSB : Hid ((nameB kb && headIs 61 (61 :: r2)) = true) := Lib.hid (by rw [HBN.out]; rfl)
        obtain ⟨hlt, hg, hem, h0i, h1i, htl⟩ := bs_head (r := 61 :: r2) rfl
        have M42 := Lib.hid (fun w => cutv42 r2 (by omega) w)
        go_wp2_with fail
        refine (M40.out _).mono ?_
        rintro e w2 ⟨rfl, hb2⟩
        have HM2 := Lib.hid (HM1.out.later hb2)
        clear hb2
        go_wp2_with fail
        refine (M41.out _).mono ?_
        rintro e w' ⟨rfl, rfl⟩
        go_wp2_with fail
        refine (M42.out _).mono ?_
        rintro e w3 ⟨hb3, hcv⟩
        have HM3 := Lib.hid (HM2.out.later hb3)
        clear hb3 hlt hg hem h0i h1i htl
        obtain ⟨ve, hve⟩ : ∃ ve, vEnd r2 = ve := ⟨_, rfl⟩
        rw [hve] at hcv
        have HVE := Lib.hid hve
        clear hve
        cases ve with
        | none =>
          obtain ⟨sa, sb, rfl⟩ := hcv
          have HP : Hid (R = (2, none)) := Lib.hid (by rw [HR.out, fp_noend HS.out HSB.out HVE.out, finP_err (by decide)])
          go_wp2_with fail
          go_step3
          refine HJ0.out _ _ ?_
          exact ⟨⟨rfl, rfl, rfl, rfl, rfl⟩, 2, rfl, HP.out, HM3.out.res, HM3.out.bel⟩
        | some q =>
          simp only at hcv
          subst hcv
          have hq := vEnd_le HVE.out
          obtain ⟨vk, vb, vt, er, hval, hvb⟩ := HVV.out.f (r2.take q)
          have M22 := Lib.hid (HVV.out.v (r2.take q) (by rw [List.length_take]; omega) w3 HM3.out.bel)
          rw [hval] at M22
          unfold val at M22
          simp only at M22
          have HVAL : Hid (V ((61 :: r2).tail.take q) = (val vk vb vt, er)) := Lib.hid hval
          have HVB := Lib.hid hvb
          obtain ⟨rd, hrd⟩ : ∃ rd, r2.drop q = rd := ⟨_, rfl⟩
          have hrl : rd.length ≤ r2.length := by rw [← hrd, List.length_drop]; omega
          have HRD := Lib.hid hrd
          rw [hrd]
          clear hval hvb hrd hq
          go_wp2_with fail
          refine M22.out.mono ?_
          rintro e w4 ⟨rfl, hb4⟩
          have hm4 := HM3.out.later hb4
          have HM4 := Lib.hid hm4
          obtain ⟨k0, b0, t0, v0, v1, v2, z0, z1, z2⟩ := hm4.vcells
          have hm5 := hm4.setVal vk vb vt
          have HM5 := Lib.hid hm5
          clear hb4 hm4 hm5
          by_cases her : er = 0
          · subst her
            have HG5 := Lib.hid ((HM4.out).setVal_at vk vb vt)
            have HRR : Hid (R = finP name tags (nextP V now n fields (fields ++ [(ofL kb, vk, vb, vt)]) rd)) := Lib.hid (by
                rw [HR.out, fp_ok HS.out HSB.out HVE.out (by rw [HVAL.out]), HVAL.out, valF_val, List.tail_cons, HRD.out])
            go_upto_region 24 with (fail)
            refine wp_gen (fun wx => PMem name tags fields v vf now w wx ∧ wx.heap[w.heap.size + 2]? = some (.cells #[.int .i64 vk, .int .u64 vb, .string vt] 53 (0, 0))) ⟨HM5.out, HG5.out⟩ ?_
            clear HM5 HG5 HM4 v0 v1 v2 z0 z1 z2
            rintro w5 ⟨hm5, hg5⟩
            have HM5 := Lib.hid hm5
            obtain ⟨d0, d1, d2, d3⟩ := hm5.cells
            have v0 : w5.cell? ⟨w.heap.size + 2, 0, none⟩ = some (.int .i64 vk) := Lib.cell_of_heap hg5 0
            have v1 : w5.cell? ⟨w.heap.size + 2, 1, none⟩ = some (.int .u64 vb) := Lib.cell_of_heap hg5 1
            have v2 : w5.cell? ⟨w.heap.size + 2, 2, none⟩ = some (.string vt) := Lib.cell_of_heap hg5 2
            obtain ⟨fa, fc, hvf⟩ := hm5.rf.slice
            subst hvf
            have hsz5 := hm5.size
            obtain ⟨i0, hi, hz0, hz1, hz2⟩ := info_parts info64
            have HI := Lib.hid hi
            have HZ0 := Lib.hid hz0
            have HZ1 := Lib.hid hz1
            have HZ2 := Lib.hid hz2
            clear hi hz0 hz1 hz2 hm5 hg5
            go_upto_region 25 with ((at_builtin; go_must (refine wpList_append_own_at _ rfl (.tmp 130) (.tmp 134) 25 rfl (w.heap.size + 3) 64 i0 _ 4 48 Tryz.underlying25 HI.out HZ0.out HZ1.out HZ2.out rfl (by omega) _ fields.length _ rfl (World.ownsRow.alloc HM5.out.rf _) ⟨w5.heap.size, 0, none⟩ 1 1 [.string (ofL kb), .int .i64 vk, .int .u64 vb, .string vt] rfl rfl (World.news_of_block (cs := #[.string (ofL kb), .int .i64 vk, .int .u64 vb, .string vt]) (t := 64) (fr := (0, 0)) (heap_alloc_new w5 _)) (by simp [Value.oneCell']) (by unfold maxLen; omega) (by omega) (by simp; omega) ?_); intro vn w6 hown1 hgrow1 hnn hat; clear hnn; obtain ⟨gv, cv, rfl, _, _⟩ := hown1.form (by omega); have hg6 := HM5.out.grownF hgrow1; have d6 : w6.cell? ⟨w.heap.size + 1, 2, none⟩ = some (.slice fa fields.length fc) := (Lib.cell_of_heap hg6.2.1 2); have z6 : w6.frozen? ⟨w.heap.size + 1, 2, none⟩ = false := (Lib.frozen_of_heap hg6.2.1 2); have HMA := Lib.hid (HM5.out.appendF (p := (ofL kb, vk, vb, vt)) hgrow1 hat hown1 rfl rfl); clear hown1 hgrow1 hat hg6))
            refine wp_gen (fun wx => PMem name tags (fields ++ [(ofL kb, vk, vb, vt)]) v (.slice (some ⟨gv, 0, none⟩) (fields.length + 1) cv) now w wx) HMA.out ?_
            clear HMA d6 z6 d0 d1 d2 d3 v0 v1 v2 hsz5 HM5
            intro w7 hm7
            have HM7 := Lib.hid hm7
            have HOK : Hid (Okay L name tags (fields ++ [(ofL kb, vk, vb, vt)])) := Lib.hid ⟨hn1, HN2.out, fun p hp => by
              rcases List.mem_append.1 hp with hp | hp
              · exact HN3.out p hp
              · simp at hp
                subst hp
                exact ⟨name_sized HBN.out, HVB.out⟩, hn4, by simp; omega⟩
            rcases list_cases rd with hrd | ⟨c2, r3, hrd⟩
            · have he0 := bs_nil hrd
              have HP : Hid (R = finP name tags (0, fields ++ [(ofL kb, vk, vb, vt)], now)) := Lib.hid (by rw [HRR.out, hrd]; rfl)
              clear hrd hm7
              go_wp2_with fail
              go_step3
              refine HJ3.out _ _ ?_
              exact ⟨⟨rfl, rfl, rfl, rfl, rfl⟩, rfl, _, _, _, _, _, _, HM7.out, HOK.out, HP.out⟩
            · obtain ⟨hlt, hg, hem, h0i, h1i, htl⟩ := bs_head hrd
              have hl3 : r3.length + 1 = rd.length := by rw [hrd]; rfl
              by_cases h44 : c2 = 44
              · have c44 : ((c2.toNat : Int) == 44) = true := byte_eq c2 44 (by decide) h44
                have HP : Hid (R = finP name tags (fieldsP V now n (fields ++ [(ofL kb, vk, vb, vt)]) r3)) := Lib.hid (by rw [HRR.out, hrd, nextP, if_pos h44])
                have HRDD := Lib.hid hrd
                clear hrd hm7 h44 htl
                go_wp2_with fail
                go_step3
                refine HJ1.out _ _ r3.length (by omega) ?_
                exact ⟨⟨rfl, rfl, rfl, rfl, rfl⟩, rfl, name, tags, _, v, _, c2, r3, n, by rw [← HRDD.out]; rfl, HM7.out, HOK.out, by simp; omega, by omega, Nat.le_refl _, HP.out⟩
              · have c44 : ((c2.toNat : Int) == 44) = false := byte_ne c2 44 (by decide) h44
                by_cases h32 : c2 = 32
                · have c32 : ((c2.toNat : Int) != 32) = false := by rw [h32]; rfl
                  have HP : Hid (R = finP name tags ((PF.intP r3).2, fields ++ [(ofL kb, vk, vb, vt)], (PF.intP r3).1)) := Lib.hid (by rw [HRR.out, hrd, nextP, if_neg h44, if_pos h32])
                  have M43 := Lib.hid (HVV.out.i r3 (by omega) w7 hm7.bel)
                  obtain ⟨x, hx⟩ : ∃ x, PF.intP r3 = x := ⟨_, rfl⟩
                  rw [hx] at M43 HP
                  obtain ⟨tv, er⟩ := x
                  simp only at M43 HP
                  clear hrd hm7 h44 h32 hx
                  go_wp2_with fail
                  refine M43.out.mono ?_
                  rintro e w8 ⟨rfl, hb8⟩
                  have hm8 := HM7.out.later hb8
                  obtain ⟨d0, d1, d2, d3⟩ := hm8.cells
                  obtain ⟨z0, z1, z2, z3⟩ := hm8.frees
                  have HM8 := Lib.hid (hm8.setTime tv)
                  clear hb8 hm8
                  by_cases her : er = 0
                  · subst her
                    go_wp2_with fail
                    go_step3
                    rename_i K hK
                    refine hK _ _ (pass_end hL (rets_jumps HRET.out) _ rfl _ _ ?_)
                    exact ⟨⟨rfl, rfl, rfl, rfl, rfl⟩, rfl, _, _, _, _, _, _, HM8.out, HOK.out, HP.out⟩
                  · have hne : (er != 0) = true := by rw [bne_iff_ne]; exact her
                    have HP2 : Hid (R = (er, none)) := Lib.hid (by rw [HP.out, finP_err her])
                    clear her
                    go_wp2_with fail
                    go_step3
                    refine HJ0.out _ _ ?_
                    exact ⟨⟨rfl, rfl, rfl, rfl, rfl⟩, er, rfl, HP2.out, HM8.out.res, HM8.out.bel⟩
                · have c32 : ((c2.toNat : Int) != 32) = true := byte_bne c2 32 (by decide) h32
                  have HP : Hid (R = (2, none)) := Lib.hid (by rw [HRR.out, hrd, nextP, if_neg h44, if_neg h32, finP_err (by decide)])
                  clear hrd hm7 h44 h32
                  go_wp2_with fail
                  go_step3
                  refine HJ0.out _ _ ?_
                  exact ⟨⟨rfl, rfl, rfl, rfl, rfl⟩, 2, rfl, HP.out, HM7.out.res, HM7.out.bel⟩
          · have hne : (er != 0) = true := by rw [bne_iff_ne]; exact her
            have HP : Hid (R = (er, none)) := Lib.hid (by rw [HR.out, fp_err HS.out HSB.out HVE.out (by rw [HVAL.out]; exact her), HVAL.out, finP_err her])
            clear her
            go_wp2_with fail
            go_step3
            refine HJ0.out _ _ ?_
            exact ⟨⟨rfl, rfl, rfl, rfl, rfl⟩, er, rfl, HP.out, HM5.out.res, HM5.out.bel⟩
end Go.Proofs.YtagiddbfhlokcaaGreatDoor.Ser
