/- A test is taken. Conditions: what ParseInt and the reader of values answer; what stands in brackets. -/
import Derived.Test.YtigicmnngppipaaGreatDoorFAW
namespace Go.Proofs.YtigicmnngppipaaGreatDoor.Tp
open Go.RowKit Lx
set_option maxRecDepth 100000
set_option maxHeartbeats 8000000 in
theorem test_135 (P n o : Nat) (rc : Option (List Tok → Res Cd)) {V : List UInt8 → Value × Int} (W : World) (hR : Rd V W) (hWP : W.heap.size ≤ P) (ho : o ≤ 16) (hrc : rc = none ↔ o = 16)
    (hor : ∀ f, rc = some f → ∀ ts w, ts.length ≤ 70000 → Below W.heap.size W w → PAt w P ts n (o + 1) → Calls Tryz.prog 75 #[.pointer (some ⟨P, 0, none⟩)] w (CdOut P n (o + 1) w (f ts)))
    (ts : List Tok) (w : World) (hL : ts.length ≤ 70000) (hW : Below W.heap.size W w) (hP : PAt w P ts n o) :
    Calls Tryz.prog 135 #[.pointer (some ⟨P, 0, none⟩)] w (CdOut P n o w (testP V rc ts)) := by
  have M71 := Lib.hid (fun w2 (hb : Below w.heap.size w w2) => peek_71 P n o ts w2 (hP.later hb))
  have hsz := (hd_sz hP).1
  obtain ⟨⟨kd, tx, at_⟩, ht⟩ : ∃ t, hdT ts = t := ⟨_, rfl⟩
  rw [ht] at M71
  unfold tokV at M71
  have heq := testP_eq V rc ts
  rw [ht] at heq
  obtain ⟨PP, hPP⟩ : ∃ PP, CdOut P n o w (testP V rc ts) = PP := ⟨_, rfl⟩
  rw [hPP]
  have HPP := Lib.hid hPP
  have HEQ := Lib.hid heq
  have HT := Lib.hid ht
  have HR := Lib.hid hR
  have HW := Lib.hid hW
  have HP := Lib.hid hP
  have HL := Lib.hid hL
  have HWP := Lib.hid hWP
  have HRC := Lib.hid hrc
  have HOR := Lib.hid hor
  have HPB := Lib.hid hP.lt
  have HO := Lib.hid ho
  clear hsz ht heq hPP hR hW hP hL hWP hrc hor ho
  have HR0 := Lib.hid (newest w (.cells #[.int .i64 0, .string ⟨#[]⟩, .string ⟨#[]⟩, .int .i64 0, .int .u64 0, .string ⟨#[]⟩, .slice none 0 0] 51 (0, 0)))
  have HB0 : Hid (Below w.heap.size w (w.alloc (.cells #[.int .i64 0, .string ⟨#[]⟩, .string ⟨#[]⟩, .int .i64 0, .int .u64 0, .string ⟨#[]⟩, .slice none 0 0] 51 (0, 0)))) := Lib.hid ((Below.refl _ _).alloc (Nat.le_refl _) _)
  go_enter Tryz.func135, Tryz.ntmps135
  go_wp2_with fail
  refine (M71.out _ HB0.out).mono ?_
  rintro e w1 ⟨rfl, hb1⟩
  have HR1 := Lib.hid ((hb1.block _ (lt_of_block HR0.out)).trans HR0.out)
  have HB1 := Lib.hid (HB0.out.trans (hb1.mono HB0.out.size))
  have HS1 := Lib.hid (Nat.lt_of_lt_of_le (lt_of_block HR0.out) hb1.size)
  have HQ1 := Lib.hid (HP.out.later HB1.out)
  have HN1 := Lib.hid (newest w1 (.cells #[.int .i64 kd, .string tx, .int .i64 at_] 96 (0, 0)))
  have HB2 : Hid (Below w.heap.size w (w1.alloc (.cells #[.int .i64 kd, .string tx, .int .i64 at_] 96 (0, 0)))) := Lib.hid (HB1.out.alloc HB1.out.size _)
  clear hb1
  cases hop : isOpen (kd, tx, at_) with
  | true =>
    have hk5 : kd = 5 := by unfold isOpen at hop; simp at hop; exact hop.1
    have htx : tx = ⟨#[40]⟩ := by unfold isOpen at hop; simp at hop; exact hop.2
    obtain ⟨r, hr⟩ := hd_cons HT.out (by show kd ≠ 0; rw [hk5]; decide)
    subst hk5 htx
    have HE := Lib.hid (HEQ.out.trans (by rw [hop, if_pos rfl]))
    have HTS := Lib.hid hr
    clear hop
    have c2 := (HP.out.later HB2.out).open_cell.1
    have f2 := (HP.out.later HB2.out).open_cell.2
    by_cases h16 : o = 16
    · have HRN := Lib.hid (HRC.out.2 h16)
      subst h16
      go_wp2_with fail
      refine (wrong_24 P n 16 ts _ (HP.out.later HB2.out)).mono ?_
      rintro e w9 ⟨rfl, rfl⟩
      unfold stuckE
      simp (config := { zetaDelta := true }) only
      refine ⟨rfl, ?_⟩
      rw [← HPP.out, HE.out, HRN.out]
      exact ⟨Kp.of HB2.out, rfl⟩
    · have h16b : ((o : Int) == 16) = false := by simp; omega
      obtain ⟨f, hf⟩ : ∃ f, rc = some f := by
        cases hc : rc with
        | none => exact absurd (HRC.out.1 hc) h16
        | some f => exact ⟨f, rfl⟩
      have HF := Lib.hid hf
      clear h16 hf
      have HQ2 : Hid (PAt (w1.alloc (.cells #[.int .i64 5, .string ⟨#[40]⟩, .int .i64 at_] 96 (0, 0))) P (_ :: r) n o) := Lib.hid (hr ▸ HP.out.later HB2.out)
      clear hr
      go_wp2_with fail
      refine (pop_72 P n o _ r _ HQ2.out).mono ?_
      rintro e w3 ⟨rfl, hk3, hp3⟩
      have c3 := hp3.open_cell.1
      have f3 := hp3.open_cell.2
      have HK3 := Lib.hid ((Kp.of HB2.out).then hk3)
      have HQ3 := Lib.hid hp3
      have HR3 := Lib.hid ((hk3.block w.heap.size (by have := HB2.out.size; have := HS1.out; simp; omega) (by show ¬ w.heap.size = P; have := HPB.out; omega)).trans ((Below.heap_alloc w1 _ _ HS1.out).trans HR1.out))
      clear hk3 hp3
      have ww : wrap64 ((o : Int) + 1) = ((o + 1 : Nat) : Int) := by have := HO.out; unfold wrap64; omega
      go_wp2_with fail
      rw [ww]
      have hopn := HQ3.out.opened (o + 1)
      rw [show ((o + 1 : Nat) : Int) = (o : Int) + 1 from rfl] at hopn
      have HK4 := Lib.hid (HK3.out.then hopn.2)
      have HR4 := Lib.hid ((heap_setCell_other w3 ⟨P, 2, none⟩ w.heap.size (.int .i64 ((o : Int) + 1)) (by show w.heap.size ≠ P; have := HPB.out; omega)).trans HR3.out)
      have hrl : r.length ≤ 70000 := by have := HL.out; rw [HTS.out] at this; simp at this; omega
      have HS4 := Lib.hid (lt_of_block HR4.out)
      refine (HOR.out f HF.out r _ hrl (HW.out.trans (HK4.out.below HW.out.size (fun k e => by show W.heap.size ≤ k; rw [e]; exact HWP.out))) hopn.1).mono ?_
      clear hopn hrl
      rintro e w5 ⟨hk5, hm5⟩
      have HR5 := Lib.hid ((hk5.block w.heap.size HS4.out (by show ¬ w.heap.size = P; have := HPB.out; omega)).trans HR4.out)
      have HK5 := Lib.hid (HK4.out.then hk5)
      have HSS := Lib.hid hk5.size
      obtain ⟨RF, hRF⟩ : ∃ RF, f r = RF := ⟨_, rfl⟩
      rw [hRF] at hm5
      have HBR : Hid (testP V rc ts = closeP RF) := Lib.hid (by rw [HE.out, HF.out, HTS.out, ← hRF]; exact brack_some _ _ _)
      clear hRF hk5
      rcases RF with q | ⟨c, q⟩
      · obtain rfl := hm5
        unfold stuckE
        simp (config := { zetaDelta := true }) only
        refine ⟨rfl, ?_⟩
        rw [← HPP.out, HBR.out]
        exact ⟨HK5.out, rfl⟩
      · obtain ⟨cv, rfl, ⟨sl, rfl, hsl⟩, hp5⟩ := hm5
        obtain ⟨sa, sc, hsv⟩ := cds_slice hsl
        subst hsv
        obtain ⟨cop, cn, csg, ⟨ck, cb, ct⟩, cp⟩ := c
        unfold cdV
        simp only [Cd.op, Cd.name, Cd.sign, Cd.val, Cd.parts] at hsl ⊢
        have HSL := Lib.hid hsl
        have HQ5 := Lib.hid hp5
        have HM := Lib.hid (fun w' hW' hP' => must_45 P n o ⟨#[41]⟩ wClose [] words1.2.2.2.1 q W w' HR.out.env hW' hP')
        have HQ6 : Hid (PAt (w5.alloc (.cells #[.int .i64 cop, .string cn, .string csg, .int .i64 ck, .int .u64 cb, .string ct, .slice sa cp.length sc] 51 (0, 0))) P q n (o + 1)) := Lib.hid (hp5.later ((Below.refl _ _).alloc (Nat.le_refl _) _))
        have HK6 : Hid (Kp (· = P) w (w5.alloc (.cells #[.int .i64 cop, .string cn, .string csg, .int .i64 ck, .int .u64 cb, .string ct, .slice sa cp.length sc] 51 (0, 0)))) := Lib.hid (HK5.out.alloc _)
        have c6 := HQ6.out.open_cell.1
        have f6 := HQ6.out.open_cell.2
        rw [show ((o + 1 : Nat) : Int) = (o : Int) + 1 from rfl] at c6
        have ww2 : wrap64 (o : Int) = (o : Int) := by have := HO.out; unfold wrap64; omega
        clear hsl hp5 h16b ww c2 f2 c3 f3
        go_wp2_with fail
        rw [ww2]
        have hopn := HQ6.out.opened o
        have HK7 := Lib.hid (HK6.out.then hopn.2)
        have HS5 := Lib.hid HSS.out
        refine (HM.out _ (HW.out.trans (HK7.out.below HW.out.size (fun k e => by show W.heap.size ≤ k; rw [e]; exact HWP.out))) hopn.1).mono ?_
        rintro e w7 ⟨hk7, hm7⟩
        have hsz5 : w.heap.size < w5.heap.size := lt_of_block HR5.out
        have hPne : ∀ k, w.heap.size ≤ k → k ≠ P := fun k hk => by have := HPB.out; omega
        have HFAR : Hid (∀ k, w.heap.size ≤ k → k < w5.heap.size → w7.heap[k]? = w5.heap[k]?) := Lib.hid (fun k h1 h2 => (hk7.block k (by simp; omega) (hPne k h1)).trans ((heap_setCell_other _ ⟨P, 2, none⟩ k _ (hPne k h1)).trans (Below.heap_alloc w5 _ k h2)))
        have HC7 : Hid (w7.heap[w5.heap.size]? = some (.cells #[.int .i64 cop, .string cn, .string csg, .int .i64 ck, .int .u64 cb, .string ct, .slice sa cp.length sc] 51 (0, 0))) := Lib.hid ((hk7.block _ (by simp) (hPne _ (Nat.le_of_lt hsz5))).trans ((heap_setCell_other _ ⟨P, 2, none⟩ _ _ (hPne _ (Nat.le_of_lt hsz5))).trans (newest w5 _)))
        have HR7 := Lib.hid ((HFAR.out w.heap.size (Nat.le_refl _) hsz5).trans HR5.out)
        have HK8 := Lib.hid (HK7.out.then hk7)
        clear hk7 hopn c6 f6 ww2
        rcases close_cases (.mk cop cn csg (ck, cb, ct) cp) q with ⟨q', e1, e2⟩ | ⟨q', e1, e2⟩
        · rw [e1] at hm7
          have HCL := Lib.hid (HBR.out.trans e2)
          clear e1 e2
          obtain ⟨rfl, hp7⟩ := hm7
          have HQ7 := Lib.hid hp7
          clear hp7
          have d0 : w7.cell? ⟨w5.heap.size, 0, none⟩ = some (.int .i64 cop) := Lib.cell_of_heap HC7.out 0
          have d1 : w7.cell? ⟨w5.heap.size, 1, none⟩ = some (.string cn) := Lib.cell_of_heap HC7.out 1
          have d2 : w7.cell? ⟨w5.heap.size, 2, none⟩ = some (.string csg) := Lib.cell_of_heap HC7.out 2
          have d3 : w7.cell? ⟨w5.heap.size, 3, none⟩ = some (.int .i64 ck) := Lib.cell_of_heap HC7.out 3
          have d4 : w7.cell? ⟨w5.heap.size, 4, none⟩ = some (.int .u64 cb) := Lib.cell_of_heap HC7.out 4
          have d5 : w7.cell? ⟨w5.heap.size, 5, none⟩ = some (.string ct) := Lib.cell_of_heap HC7.out 5
          have d6 : w7.cell? ⟨w5.heap.size, 6, none⟩ = some (.slice sa cp.length sc) := Lib.cell_of_heap HC7.out 6
          have q0 : w7.cell? ⟨w.heap.size, 0, none⟩ = some (.int .i64 0) := Lib.cell_of_heap HR7.out 0
          have f0 : w7.frozen? ⟨w.heap.size, 0, none⟩ = false := Lib.frozen_of_heap HR7.out 0
          have q1 : w7.cell? ⟨w.heap.size, 1, none⟩ = some (.string ⟨#[]⟩) := Lib.cell_of_heap HR7.out 1
          have f1 : w7.frozen? ⟨w.heap.size, 1, none⟩ = false := Lib.frozen_of_heap HR7.out 1
          have q2 : w7.cell? ⟨w.heap.size, 2, none⟩ = some (.string ⟨#[]⟩) := Lib.cell_of_heap HR7.out 2
          have f2 : w7.frozen? ⟨w.heap.size, 2, none⟩ = false := Lib.frozen_of_heap HR7.out 2
          have q3 : w7.cell? ⟨w.heap.size, 3, none⟩ = some (.int .i64 0) := Lib.cell_of_heap HR7.out 3
          have f3 : w7.frozen? ⟨w.heap.size, 3, none⟩ = false := Lib.frozen_of_heap HR7.out 3
          have q4 : w7.cell? ⟨w.heap.size, 4, none⟩ = some (.int .u64 0) := Lib.cell_of_heap HR7.out 4
          have f4 : w7.frozen? ⟨w.heap.size, 4, none⟩ = false := Lib.frozen_of_heap HR7.out 4
          have q5 : w7.cell? ⟨w.heap.size, 5, none⟩ = some (.string ⟨#[]⟩) := Lib.cell_of_heap HR7.out 5
          have f5 : w7.frozen? ⟨w.heap.size, 5, none⟩ = false := Lib.frozen_of_heap HR7.out 5
          have q6 : w7.cell? ⟨w.heap.size, 6, none⟩ = some (.slice none 0 0) := Lib.cell_of_heap HR7.out 6
          have f6 : w7.frozen? ⟨w.heap.size, 6, none⟩ = false := Lib.frozen_of_heap HR7.out 6
          go_wp2_with fail
          refine bodyPost_ret (results_cell_row rfl _ _ w.heap.size 51 _ (0, 0) _ rfl (put7_heap HR7.out _ _ _ _ _ _ _) Tryz.underlying51 (by kernel_rfl) info51s) rfl ?_
          rw [← HPP.out, HCL.out]
          exact ⟨put7_kp HK8.out (Nat.le_refl _) _ _ _ _ _ _ _, _, rfl, ⟨_, rfl, HSL.out.keep fun k h1 h2 => ⟨(put7_far (by have := HS4.out; have := h1; simp at this; omega) _ _ _ _ _ _ _).trans (HFAR.out k (by have := HS4.out; have := h1; simp at this; omega) h2), by have := HS4.out; have := h1; simp at this; omega⟩⟩, put7_pat HQ7.out HPB.out _ _ _ _ _ _ _⟩
        · rw [e1] at hm7
          have HCL := Lib.hid (HBR.out.trans e2)
          clear e1 e2
          obtain rfl := hm7
          unfold stuckE
          simp (config := { zetaDelta := true }) only
          refine ⟨rfl, ?_⟩
          rw [← HPP.out, HCL.out]
          exact ⟨HK8.out, rfl⟩
  | false =>
    by_cases hk5 : kd = 5
    · have htb : (tx.toList == [40]) = false := by
        rw [show ([40] : List UInt8) = (⟨#[40]⟩ : ByteArray).toList by rw [Lib.toList_data], beq_str]
        refine decide_eq_false fun e => ?_
        rw [hk5, e] at hop
        cases hop
      have hk5b : (kd == 5) = true := by simp [hk5]
      clear hk5
      have HR2 := Lib.hid ((Below.heap_alloc w1 (.cells #[.int .i64 kd, .string tx, .int .i64 at_] 96 (0, 0)) _ HS1.out).trans HR1.out)
      have HQ2 := Lib.hid (HP.out.later HB2.out)
      have HM := Lib.hid (fun w' hW' hP' => has_42 P n o ⟨#[84, 73, 77, 69]⟩ wTIME [] words1.1 ts W w' HR.out.env hW' hP')
      have HS2 : Hid (w.heap.size < (w1.alloc (.cells #[.int .i64 kd, .string tx, .int .i64 at_] 96 (0, 0))).heap.size) := Lib.hid (lt_of_block HR2.out)
      go_wp2_with fail
      refine (HM.out _ (HW.out.trans ((Kp.of (S := (· = P)) HB2.out).below HW.out.size (fun k e => by show W.heap.size ≤ k; rw [e]; exact HWP.out))) HQ2.out).mono ?_
      rintro e w3 ⟨hk3, hm3⟩
      have HR3 := Lib.hid ((hk3.block w.heap.size HS2.out (by show ¬ w.heap.size = P; have := HPB.out; omega)).trans HR2.out)
      have HK3 := Lib.hid ((Kp.of HB2.out).then hk3)
      have HS3 := Lib.hid (lt_of_block HR3.out)
      have hhas := has_one wTIME ts
      rw [HT.out] at hhas
      clear hk3
      rcases hhas with ⟨e1, e2⟩ | ⟨t0, r, e0, e1, e2⟩
      · rw [e1] at hm3
        have HE := Lib.hid (HEQ.out.trans (by rw [hop, e2]; rfl : _ = leafP V ts))
        clear e1 e2 hop
        obtain ⟨rfl, hp3⟩ := hm3
        have HQ3 := Lib.hid hp3
        clear hp3
        have HMN := Lib.hid (name_43 P n o ts W w3 HR.out.env (HW.out.trans (HK3.out.below HW.out.size (fun k e => by show W.heap.size ≤ k; rw [e]; exact HWP.out))) HQ3.out)
        go_wp2_with fail
        refine HMN.out.mono ?_
        clear HMN
        rintro e w4 ⟨hk4, hm4⟩
        have HR4 := Lib.hid ((hk4.block w.heap.size HS3.out (by show ¬ w.heap.size = P; have := HPB.out; omega)).trans HR3.out)
        have HK4 := Lib.hid (HK3.out.then hk4)
        have HS4 := Lib.hid (lt_of_block HR4.out)
        clear hk4
        cases hnm : nameP ts with
        | error q =>
          rw [hnm] at hm4
          obtain rfl := hm4
          unfold stuckE
          simp (config := { zetaDelta := true }) only
          refine ⟨rfl, ?_⟩
          rw [← HPP.out, HE.out, leafP_err hnm]
          exact ⟨HK4.out, rfl⟩
        | ok nr =>
          obtain ⟨nm, r⟩ := nr
          rw [hnm] at hm4
          obtain ⟨rfl, hp4⟩ := hm4
          have HNM := Lib.hid hnm
          have HQ5 := Lib.hid (hp4.later ((Below.refl _ _).alloc (Nat.le_refl _) (.cells #[.int .i64 3, .string nm, .string ⟨#[]⟩, .int .i64 0, .int .u64 0, .string ⟨#[]⟩, .slice none 0 0] 51 (0, 0))))
          have HC5 := Lib.hid (newest w4 (.cells #[.int .i64 3, .string nm, .string ⟨#[]⟩, .int .i64 0, .int .u64 0, .string ⟨#[]⟩, .slice none 0 0] 51 (0, 0)))
          have HK5 := Lib.hid (HK4.out.alloc (.cells #[.int .i64 3, .string nm, .string ⟨#[]⟩, .int .i64 0, .int .u64 0, .string ⟨#[]⟩, .slice none 0 0] 51 (0, 0)))
          have HR5 := Lib.hid ((Below.heap_alloc w4 (.cells #[.int .i64 3, .string nm, .string ⟨#[]⟩, .int .i64 0, .int .u64 0, .string ⟨#[]⟩, .slice none 0 0] 51 (0, 0)) _ HS4.out).trans HR4.out)
          have HMS := Lib.hid (sign_164 P n o r _ HQ5.out)
          clear hp4 hnm
          go_wp2_with fail
          refine HMS.out.mono ?_
          clear HMS
          rintro e w5 ⟨hk5, hm5⟩
          have HR6 := Lib.hid ((hk5.block w.heap.size (lt_of_block HR5.out) (by show ¬ w.heap.size = P; have := HPB.out; omega)).trans HR5.out)
          have HC6 := Lib.hid ((hk5.block w4.heap.size (lt_of_block HC5.out) (by show ¬ w4.heap.size = P; have := HPB.out; have := HS4.out; omega)).trans HC5.out)
          have HK6 := Lib.hid (HK5.out.then hk5)
          clear hk5
          cases hsg : signP r with
          | error q =>
            rw [hsg] at hm5
            obtain rfl := hm5
            unfold stuckE
            simp (config := { zetaDelta := true }) only
            refine ⟨rfl, ?_⟩
            rw [← HPP.out, HE.out, leafP_err2 HNM.out hsg]
            exact ⟨HK6.out, rfl⟩
          | ok sr =>
            obtain ⟨sg, r2⟩ := sr
            rw [hsg] at hm5
            obtain ⟨rfl, hp5⟩ := hm5
            have HLF := Lib.hid (HE.out.trans (leafP_ok HNM.out hsg))
            have hPC : P < w4.heap.size := by have := HPB.out; have := HS4.out; omega
            have HQ7 := Lib.hid (hp5.set (p := ⟨w4.heap.size, 2, none⟩) hPC (.string sg))
            have HC7 : Hid ((w5.setCell ⟨w4.heap.size, 2, none⟩ (.string sg)).heap[w4.heap.size]? = some (.cells #[.int .i64 3, .string nm, .string sg, .int .i64 0, .int .u64 0, .string ⟨#[]⟩, .slice none 0 0] 51 (0, 0))) := Lib.hid (heap_setCell_same _ _ _ _ _ _ HC6.out)
            have HR7 := Lib.hid ((heap_setCell_other w5 ⟨w4.heap.size, 2, none⟩ w.heap.size (.string sg) (by show w.heap.size ≠ w4.heap.size; have := HS4.out; omega)).trans HR6.out)
            have HK7 := Lib.hid (HK6.out.set (p := ⟨w4.heap.size, 2, none⟩) (.inr (Nat.le_of_lt HS4.out)) (.string sg))
            have HPK := Lib.hid (peek_71 P n o r2 _ HQ7.out)
            have m2 : w5.cell? ⟨w4.heap.size, 2, none⟩ = some (.string ⟨#[]⟩) := Lib.cell_of_heap HC6.out 2
            have n2 : w5.frozen? ⟨w4.heap.size, 2, none⟩ = false := Lib.frozen_of_heap HC6.out 2
            obtain ⟨⟨k2, x2, a2⟩, ht2⟩ : ∃ t, hdT r2 = t := ⟨_, rfl⟩
            have hrp := rightP_eq V nm sg r2
            rw [ht2] at hrp HPK
            unfold tokV at HPK
            have HRP := Lib.hid (HLF.out.trans hrp)
            have HT2 := Lib.hid ht2
            clear hsg hp5 hPC hrp ht2
            go_wp2_with fail
            refine HPK.out.mono ?_
            clear HPK
            rintro e w6 ⟨rfl, hb6⟩
            have HQ8 := Lib.hid (HQ7.out.later (hb6.alloc hb6.size (.cells #[.int .i64 k2, .string x2, .int .i64 a2] 96 (0, 0))))
            have HK8 := Lib.hid (HK7.out.then (Kp.of (hb6.alloc hb6.size (.cells #[.int .i64 k2, .string x2, .int .i64 a2] 96 (0, 0)))))
            have HC8 := Lib.hid (((hb6.alloc hb6.size (.cells #[.int .i64 k2, .string x2, .int .i64 a2] 96 (0, 0))).block _ (lt_of_block HC7.out)).trans HC7.out)
            have HR8 := Lib.hid (((hb6.alloc hb6.size (.cells #[.int .i64 k2, .string x2, .int .i64 a2] 96 (0, 0))).block _ (lt_of_block HR7.out)).trans HR7.out)
            have HT8 := Lib.hid (newest w6 (.cells #[.int .i64 k2, .string x2, .int .i64 a2] 96 (0, 0)))
            have HS8 : Hid (w4.heap.size < w6.heap.size) := Lib.hid (Nat.lt_of_lt_of_le (lt_of_block HC7.out) hb6.size)
            clear hb6 m2 n2
            by_cases h4 : k2 = 4
            · subst h4
              obtain ⟨r3, hr3⟩ := hd_cons HT2.out (by show (4 : Int) ≠ 0; decide)
              subst hr3
              have HF := Lib.hid (HRP.out.trans (if_pos rfl))
              have HPO := Lib.hid (pop_72 P n o _ r3 _ HQ8.out)
              go_wp2_with fail
              refine HPO.out.mono ?_
              clear HPO
              rintro e w7 ⟨rfl, hk9, hp9⟩
              have HC9 := Lib.hid ((hk9.block w4.heap.size (lt_of_block HC8.out) (by show ¬ w4.heap.size = P; have := HPB.out; have := HS4.out; omega)).trans HC8.out)
              have HR9 := Lib.hid ((hk9.block w.heap.size (lt_of_block HR8.out) (by show ¬ w.heap.size = P; have := HPB.out; omega)).trans HR8.out)
              have HT9 := Lib.hid ((hk9.block w6.heap.size (lt_of_block HT8.out) (by show ¬ w6.heap.size = P; have := HPB.out; have := HS4.out; have := HS8.out; omega)).trans HT8.out)
              have HK9 := Lib.hid (HK8.out.then hk9)
              have HQ9 := Lib.hid hp9
              clear hk9 hp9
              have t1 : w7.cell? ⟨w6.heap.size, 1, none⟩ = some (.string x2) := Lib.cell_of_heap HT9.out 1
              have d0 : w7.cell? ⟨w4.heap.size, 0, none⟩ = some (.int .i64 3) := Lib.cell_of_heap HC9.out 0
              have g0 : w7.frozen? ⟨w4.heap.size, 0, none⟩ = false := Lib.frozen_of_heap HC9.out 0
              have d1 : w7.cell? ⟨w4.heap.size, 1, none⟩ = some (.string nm) := Lib.cell_of_heap HC9.out 1
              have g1 : w7.frozen? ⟨w4.heap.size, 1, none⟩ = false := Lib.frozen_of_heap HC9.out 1
              have d2 : w7.cell? ⟨w4.heap.size, 2, none⟩ = some (.string sg) := Lib.cell_of_heap HC9.out 2
              have g2 : w7.frozen? ⟨w4.heap.size, 2, none⟩ = false := Lib.frozen_of_heap HC9.out 2
              have d3 : w7.cell? ⟨w4.heap.size, 3, none⟩ = some (.int .i64 0) := Lib.cell_of_heap HC9.out 3
              have g3 : w7.frozen? ⟨w4.heap.size, 3, none⟩ = false := Lib.frozen_of_heap HC9.out 3
              have d4 : w7.cell? ⟨w4.heap.size, 4, none⟩ = some (.int .u64 0) := Lib.cell_of_heap HC9.out 4
              have g4 : w7.frozen? ⟨w4.heap.size, 4, none⟩ = false := Lib.frozen_of_heap HC9.out 4
              have d5 : w7.cell? ⟨w4.heap.size, 5, none⟩ = some (.string ⟨#[]⟩) := Lib.cell_of_heap HC9.out 5
              have g5 : w7.frozen? ⟨w4.heap.size, 5, none⟩ = false := Lib.frozen_of_heap HC9.out 5
              have d6 : w7.cell? ⟨w4.heap.size, 6, none⟩ = some (.slice none 0 0) := Lib.cell_of_heap HC9.out 6
              have g6 : w7.frozen? ⟨w4.heap.size, 6, none⟩ = false := Lib.frozen_of_heap HC9.out 6
              have q0 : w7.cell? ⟨w.heap.size, 0, none⟩ = some (.int .i64 0) := Lib.cell_of_heap HR9.out 0
              have f0 : w7.frozen? ⟨w.heap.size, 0, none⟩ = false := Lib.frozen_of_heap HR9.out 0
              have q1 : w7.cell? ⟨w.heap.size, 1, none⟩ = some (.string ⟨#[]⟩) := Lib.cell_of_heap HR9.out 1
              have f1 : w7.frozen? ⟨w.heap.size, 1, none⟩ = false := Lib.frozen_of_heap HR9.out 1
              have q2 : w7.cell? ⟨w.heap.size, 2, none⟩ = some (.string ⟨#[]⟩) := Lib.cell_of_heap HR9.out 2
              have f2 : w7.frozen? ⟨w.heap.size, 2, none⟩ = false := Lib.frozen_of_heap HR9.out 2
              have q3 : w7.cell? ⟨w.heap.size, 3, none⟩ = some (.int .i64 0) := Lib.cell_of_heap HR9.out 3
              have f3 : w7.frozen? ⟨w.heap.size, 3, none⟩ = false := Lib.frozen_of_heap HR9.out 3
              have q4 : w7.cell? ⟨w.heap.size, 4, none⟩ = some (.int .u64 0) := Lib.cell_of_heap HR9.out 4
              have f4 : w7.frozen? ⟨w.heap.size, 4, none⟩ = false := Lib.frozen_of_heap HR9.out 4
              have q5 : w7.cell? ⟨w.heap.size, 5, none⟩ = some (.string ⟨#[]⟩) := Lib.cell_of_heap HR9.out 5
              have f5 : w7.frozen? ⟨w.heap.size, 5, none⟩ = false := Lib.frozen_of_heap HR9.out 5
              have q6 : w7.cell? ⟨w.heap.size, 6, none⟩ = some (.slice none 0 0) := Lib.cell_of_heap HR9.out 6
              have f6 : w7.frozen? ⟨w.heap.size, 6, none⟩ = false := Lib.frozen_of_heap HR9.out 6
              have hne : w4.heap.size ≠ w.heap.size := by have := HS4.out; omega
              go_wp2_with fail
              refine bodyPost_ret (results_cell_row rfl _ _ w.heap.size 51 _ (0, 0) _ rfl (put7_heap ((put3c_far (by have := HS4.out; omega) _ _ _).trans HR9.out) _ _ _ _ _ _ _) Tryz.underlying51 (by kernel_rfl) info51s) rfl ?_
              rw [← HPP.out]
              exact leaf_out (HF.out) HK9.out HQ9.out HPB.out (Nat.le_refl _) (Nat.le_of_lt HS4.out)
            · have h4b : (k2 == 4) = false := by simp [h4]
              have HF1 := Lib.hid (HRP.out.trans (if_neg h4))
              have HM1 := Lib.hid (has_42 P n o ⟨#[84, 82, 85, 69]⟩ wTRUE [] words1.2.1 r2 W _ HR.out.env (HW.out.trans (HK8.out.below HW.out.size (fun k e => by show W.heap.size ≤ k; rw [e]; exact HWP.out))) HQ8.out)
              clear h4
              go_wp2_with fail
              refine HM1.out.mono ?_
              clear HM1
              rintro e w7 ⟨hk9, hm9⟩
              have HC9 := Lib.hid ((hk9.block w4.heap.size (lt_of_block HC8.out) (by show ¬ w4.heap.size = P; have := HPB.out; have := HS4.out; omega)).trans HC8.out)
              have HR9 := Lib.hid ((hk9.block w.heap.size (lt_of_block HR8.out) (by show ¬ w.heap.size = P; have := HPB.out; omega)).trans HR8.out)
              have HK9 := Lib.hid (HK8.out.then hk9)
              have hhas := has_one wTRUE r2
              rw [HT2.out] at hhas
              clear hk9
              rcases hhas with ⟨e1, e2⟩ | ⟨t0, r3, e0, e1, e2⟩
              · have HF2 := Lib.hid (HF1.out.trans (if_neg (by rw [e2]; decide)))
                rw [e1] at hm9
                obtain ⟨rfl, hp9⟩ := hm9
                have HQ9 := Lib.hid hp9
                have HM2 := Lib.hid (has_42 P n o ⟨#[70, 65, 76, 83, 69]⟩ wFALSE [] words1.2.2.1 r2 W _ HR.out.env (HW.out.trans (HK9.out.below HW.out.size (fun k e => by show W.heap.size ≤ k; rw [e]; exact HWP.out))) HQ9.out)
                clear e1 e2 hp9
                go_wp2_with fail
                refine HM2.out.mono ?_
                clear HM2
                rintro e w8 ⟨hk10, hm10⟩
                have HC10 := Lib.hid ((hk10.block w4.heap.size (lt_of_block HC9.out) (by show ¬ w4.heap.size = P; have := HPB.out; have := HS4.out; omega)).trans HC9.out)
                have HR10 := Lib.hid ((hk10.block w.heap.size (lt_of_block HR9.out) (by show ¬ w.heap.size = P; have := HPB.out; omega)).trans HR9.out)
                have HK10 := Lib.hid (HK9.out.then hk10)
                have hhas := has_one wFALSE r2
                rw [HT2.out] at hhas
                clear hk10
                rcases hhas with ⟨e1, e2⟩ | ⟨t0, r3, e0, e1, e2⟩
                · have HF3 := Lib.hid (HF2.out.trans (if_neg (by rw [e2]; decide)))
                  rw [e1] at hm10
                  obtain ⟨rfl, hp10⟩ := hm10
                  have HQ10 := Lib.hid hp10
                  have HMM := Lib.hid (number_79 P n o r2 W w8 HR.out (HW.out.trans (HK10.out.below HW.out.size (fun k e => by show W.heap.size ≤ k; rw [e]; exact HWP.out))) HQ10.out)
                  clear e1 e2 hp10
                  go_wp2_with fail
                  refine HMM.out.mono ?_
                  clear HMM
                  rintro e w9 ⟨hk11, hm11⟩
                  have HC11 := Lib.hid ((hk11.block w4.heap.size (lt_of_block HC10.out) (by show ¬ w4.heap.size = P; have := HPB.out; have := HS4.out; omega)).trans HC10.out)
                  have HR11 := Lib.hid ((hk11.block w.heap.size (lt_of_block HR10.out) (by show ¬ w.heap.size = P; have := HPB.out; omega)).trans HR10.out)
                  have HK11 := Lib.hid (HK10.out.then hk11)
                  clear hk11
                  cases hnu : numP V r2 with
                  | none =>
                    rw [hnu] at hm11
                    obtain ⟨rfl, hp11⟩ := hm11
                    have HQ11 := Lib.hid hp11
                    have HF4 := Lib.hid (HF3.out.trans (by rw [hnu]))
                    clear hnu hp11
                    unfold valV val0
                    go_wp2_with fail
                    refine (wrong_24 P n o r2 _ (HQ11.out.later ((Below.refl _ _).alloc (Nat.le_refl _) _))).mono ?_
                    rintro e w12 ⟨rfl, rfl⟩
                    unfold stuckE
                    simp (config := { zetaDelta := true }) only
                    refine ⟨rfl, ?_⟩
                    rw [← HPP.out, HF4.out]
                    exact ⟨HK11.out.alloc _, rfl⟩
                  | some vr =>
                    obtain ⟨⟨vk, vb, vt⟩, r3⟩ := vr
                    rw [hnu] at hm11
                    obtain ⟨rfl, hp11⟩ := hm11
                    have HF4 := Lib.hid (HF3.out.trans (by rw [hnu]))
                    have HQ12 := Lib.hid (hp11.later ((Below.refl _ _).alloc (Nat.le_refl _) (.cells #[.int .i64 vk, .int .u64 vb, .string vt] 28 (0, 0))))
                    have HK12 := Lib.hid (HK11.out.alloc (.cells #[.int .i64 vk, .int .u64 vb, .string vt] 28 (0, 0)))
                    have HC12 := Lib.hid ((Below.heap_alloc w9 (.cells #[.int .i64 vk, .int .u64 vb, .string vt] 28 (0, 0)) _ (lt_of_block HC11.out)).trans HC11.out)
                    have HR12 := Lib.hid ((Below.heap_alloc w9 (.cells #[.int .i64 vk, .int .u64 vb, .string vt] 28 (0, 0)) _ (lt_of_block HR11.out)).trans HR11.out)
                    clear hnu hp11
                    unfold valV
                    have d0 : (w9.alloc (.cells #[.int .i64 vk, .int .u64 vb, .string vt] 28 (0, 0))).cell? ⟨w4.heap.size, 0, none⟩ = some (.int .i64 3) := Lib.cell_of_heap HC12.out 0
                    have g0 : (w9.alloc (.cells #[.int .i64 vk, .int .u64 vb, .string vt] 28 (0, 0))).frozen? ⟨w4.heap.size, 0, none⟩ = false := Lib.frozen_of_heap HC12.out 0
                    have d1 : (w9.alloc (.cells #[.int .i64 vk, .int .u64 vb, .string vt] 28 (0, 0))).cell? ⟨w4.heap.size, 1, none⟩ = some (.string nm) := Lib.cell_of_heap HC12.out 1
                    have g1 : (w9.alloc (.cells #[.int .i64 vk, .int .u64 vb, .string vt] 28 (0, 0))).frozen? ⟨w4.heap.size, 1, none⟩ = false := Lib.frozen_of_heap HC12.out 1
                    have d2 : (w9.alloc (.cells #[.int .i64 vk, .int .u64 vb, .string vt] 28 (0, 0))).cell? ⟨w4.heap.size, 2, none⟩ = some (.string sg) := Lib.cell_of_heap HC12.out 2
                    have g2 : (w9.alloc (.cells #[.int .i64 vk, .int .u64 vb, .string vt] 28 (0, 0))).frozen? ⟨w4.heap.size, 2, none⟩ = false := Lib.frozen_of_heap HC12.out 2
                    have d3 : (w9.alloc (.cells #[.int .i64 vk, .int .u64 vb, .string vt] 28 (0, 0))).cell? ⟨w4.heap.size, 3, none⟩ = some (.int .i64 0) := Lib.cell_of_heap HC12.out 3
                    have g3 : (w9.alloc (.cells #[.int .i64 vk, .int .u64 vb, .string vt] 28 (0, 0))).frozen? ⟨w4.heap.size, 3, none⟩ = false := Lib.frozen_of_heap HC12.out 3
                    have d4 : (w9.alloc (.cells #[.int .i64 vk, .int .u64 vb, .string vt] 28 (0, 0))).cell? ⟨w4.heap.size, 4, none⟩ = some (.int .u64 0) := Lib.cell_of_heap HC12.out 4
                    have g4 : (w9.alloc (.cells #[.int .i64 vk, .int .u64 vb, .string vt] 28 (0, 0))).frozen? ⟨w4.heap.size, 4, none⟩ = false := Lib.frozen_of_heap HC12.out 4
                    have d5 : (w9.alloc (.cells #[.int .i64 vk, .int .u64 vb, .string vt] 28 (0, 0))).cell? ⟨w4.heap.size, 5, none⟩ = some (.string ⟨#[]⟩) := Lib.cell_of_heap HC12.out 5
                    have g5 : (w9.alloc (.cells #[.int .i64 vk, .int .u64 vb, .string vt] 28 (0, 0))).frozen? ⟨w4.heap.size, 5, none⟩ = false := Lib.frozen_of_heap HC12.out 5
                    have d6 : (w9.alloc (.cells #[.int .i64 vk, .int .u64 vb, .string vt] 28 (0, 0))).cell? ⟨w4.heap.size, 6, none⟩ = some (.slice none 0 0) := Lib.cell_of_heap HC12.out 6
                    have g6 : (w9.alloc (.cells #[.int .i64 vk, .int .u64 vb, .string vt] 28 (0, 0))).frozen? ⟨w4.heap.size, 6, none⟩ = false := Lib.frozen_of_heap HC12.out 6
                    have q0 : (w9.alloc (.cells #[.int .i64 vk, .int .u64 vb, .string vt] 28 (0, 0))).cell? ⟨w.heap.size, 0, none⟩ = some (.int .i64 0) := Lib.cell_of_heap HR12.out 0
                    have f0 : (w9.alloc (.cells #[.int .i64 vk, .int .u64 vb, .string vt] 28 (0, 0))).frozen? ⟨w.heap.size, 0, none⟩ = false := Lib.frozen_of_heap HR12.out 0
                    have q1 : (w9.alloc (.cells #[.int .i64 vk, .int .u64 vb, .string vt] 28 (0, 0))).cell? ⟨w.heap.size, 1, none⟩ = some (.string ⟨#[]⟩) := Lib.cell_of_heap HR12.out 1
                    have f1 : (w9.alloc (.cells #[.int .i64 vk, .int .u64 vb, .string vt] 28 (0, 0))).frozen? ⟨w.heap.size, 1, none⟩ = false := Lib.frozen_of_heap HR12.out 1
                    have q2 : (w9.alloc (.cells #[.int .i64 vk, .int .u64 vb, .string vt] 28 (0, 0))).cell? ⟨w.heap.size, 2, none⟩ = some (.string ⟨#[]⟩) := Lib.cell_of_heap HR12.out 2
                    have f2 : (w9.alloc (.cells #[.int .i64 vk, .int .u64 vb, .string vt] 28 (0, 0))).frozen? ⟨w.heap.size, 2, none⟩ = false := Lib.frozen_of_heap HR12.out 2
                    have q3 : (w9.alloc (.cells #[.int .i64 vk, .int .u64 vb, .string vt] 28 (0, 0))).cell? ⟨w.heap.size, 3, none⟩ = some (.int .i64 0) := Lib.cell_of_heap HR12.out 3
                    have f3 : (w9.alloc (.cells #[.int .i64 vk, .int .u64 vb, .string vt] 28 (0, 0))).frozen? ⟨w.heap.size, 3, none⟩ = false := Lib.frozen_of_heap HR12.out 3
                    have q4 : (w9.alloc (.cells #[.int .i64 vk, .int .u64 vb, .string vt] 28 (0, 0))).cell? ⟨w.heap.size, 4, none⟩ = some (.int .u64 0) := Lib.cell_of_heap HR12.out 4
                    have f4 : (w9.alloc (.cells #[.int .i64 vk, .int .u64 vb, .string vt] 28 (0, 0))).frozen? ⟨w.heap.size, 4, none⟩ = false := Lib.frozen_of_heap HR12.out 4
                    have q5 : (w9.alloc (.cells #[.int .i64 vk, .int .u64 vb, .string vt] 28 (0, 0))).cell? ⟨w.heap.size, 5, none⟩ = some (.string ⟨#[]⟩) := Lib.cell_of_heap HR12.out 5
                    have f5 : (w9.alloc (.cells #[.int .i64 vk, .int .u64 vb, .string vt] 28 (0, 0))).frozen? ⟨w.heap.size, 5, none⟩ = false := Lib.frozen_of_heap HR12.out 5
                    have q6 : (w9.alloc (.cells #[.int .i64 vk, .int .u64 vb, .string vt] 28 (0, 0))).cell? ⟨w.heap.size, 6, none⟩ = some (.slice none 0 0) := Lib.cell_of_heap HR12.out 6
                    have f6 : (w9.alloc (.cells #[.int .i64 vk, .int .u64 vb, .string vt] 28 (0, 0))).frozen? ⟨w.heap.size, 6, none⟩ = false := Lib.frozen_of_heap HR12.out 6
                    have hne : w4.heap.size ≠ w.heap.size := by have := HS4.out; omega
                    go_wp2_with fail
                    refine bodyPost_ret (results_cell_row rfl _ _ w.heap.size 51 _ (0, 0) _ rfl (put7_heap ((put3c_far (by have := HS4.out; omega) _ _ _).trans HR12.out) _ _ _ _ _ _ _) Tryz.underlying51 (by kernel_rfl) info51s) rfl ?_
                    rw [← HPP.out]
                    exact leaf_out (HF4.out) HK12.out HQ12.out HPB.out (Nat.le_refl _) (Nat.le_of_lt HS4.out)
                · have HF3 := Lib.hid (HF2.out.trans (if_pos (by rw [← HT2.out, e0]; exact e2)))
                  rw [e1] at hm10
                  obtain ⟨rfl, hp10⟩ := hm10
                  have HQ10 := Lib.hid hp10
                  subst e0
                  clear e1 e2 hp10
                  have d0 : w8.cell? ⟨w4.heap.size, 0, none⟩ = some (.int .i64 3) := Lib.cell_of_heap HC10.out 0
                  have g0 : w8.frozen? ⟨w4.heap.size, 0, none⟩ = false := Lib.frozen_of_heap HC10.out 0
                  have d1 : w8.cell? ⟨w4.heap.size, 1, none⟩ = some (.string nm) := Lib.cell_of_heap HC10.out 1
                  have g1 : w8.frozen? ⟨w4.heap.size, 1, none⟩ = false := Lib.frozen_of_heap HC10.out 1
                  have d2 : w8.cell? ⟨w4.heap.size, 2, none⟩ = some (.string sg) := Lib.cell_of_heap HC10.out 2
                  have g2 : w8.frozen? ⟨w4.heap.size, 2, none⟩ = false := Lib.frozen_of_heap HC10.out 2
                  have d3 : w8.cell? ⟨w4.heap.size, 3, none⟩ = some (.int .i64 0) := Lib.cell_of_heap HC10.out 3
                  have g3 : w8.frozen? ⟨w4.heap.size, 3, none⟩ = false := Lib.frozen_of_heap HC10.out 3
                  have d4 : w8.cell? ⟨w4.heap.size, 4, none⟩ = some (.int .u64 0) := Lib.cell_of_heap HC10.out 4
                  have g4 : w8.frozen? ⟨w4.heap.size, 4, none⟩ = false := Lib.frozen_of_heap HC10.out 4
                  have d5 : w8.cell? ⟨w4.heap.size, 5, none⟩ = some (.string ⟨#[]⟩) := Lib.cell_of_heap HC10.out 5
                  have g5 : w8.frozen? ⟨w4.heap.size, 5, none⟩ = false := Lib.frozen_of_heap HC10.out 5
                  have d6 : w8.cell? ⟨w4.heap.size, 6, none⟩ = some (.slice none 0 0) := Lib.cell_of_heap HC10.out 6
                  have g6 : w8.frozen? ⟨w4.heap.size, 6, none⟩ = false := Lib.frozen_of_heap HC10.out 6
                  have q0 : w8.cell? ⟨w.heap.size, 0, none⟩ = some (.int .i64 0) := Lib.cell_of_heap HR10.out 0
                  have f0 : w8.frozen? ⟨w.heap.size, 0, none⟩ = false := Lib.frozen_of_heap HR10.out 0
                  have q1 : w8.cell? ⟨w.heap.size, 1, none⟩ = some (.string ⟨#[]⟩) := Lib.cell_of_heap HR10.out 1
                  have f1 : w8.frozen? ⟨w.heap.size, 1, none⟩ = false := Lib.frozen_of_heap HR10.out 1
                  have q2 : w8.cell? ⟨w.heap.size, 2, none⟩ = some (.string ⟨#[]⟩) := Lib.cell_of_heap HR10.out 2
                  have f2 : w8.frozen? ⟨w.heap.size, 2, none⟩ = false := Lib.frozen_of_heap HR10.out 2
                  have q3 : w8.cell? ⟨w.heap.size, 3, none⟩ = some (.int .i64 0) := Lib.cell_of_heap HR10.out 3
                  have f3 : w8.frozen? ⟨w.heap.size, 3, none⟩ = false := Lib.frozen_of_heap HR10.out 3
                  have q4 : w8.cell? ⟨w.heap.size, 4, none⟩ = some (.int .u64 0) := Lib.cell_of_heap HR10.out 4
                  have f4 : w8.frozen? ⟨w.heap.size, 4, none⟩ = false := Lib.frozen_of_heap HR10.out 4
                  have q5 : w8.cell? ⟨w.heap.size, 5, none⟩ = some (.string ⟨#[]⟩) := Lib.cell_of_heap HR10.out 5
                  have f5 : w8.frozen? ⟨w.heap.size, 5, none⟩ = false := Lib.frozen_of_heap HR10.out 5
                  have q6 : w8.cell? ⟨w.heap.size, 6, none⟩ = some (.slice none 0 0) := Lib.cell_of_heap HR10.out 6
                  have f6 : w8.frozen? ⟨w.heap.size, 6, none⟩ = false := Lib.frozen_of_heap HR10.out 6
                  have hne : w4.heap.size ≠ w.heap.size := by have := HS4.out; omega
                  go_wp2_with fail
                  refine bodyPost_ret (results_cell_row rfl _ _ w.heap.size 51 _ (0, 0) _ rfl (put7_heap ((put3c_far (by have := HS4.out; omega) _ _ _).trans HR10.out) _ _ _ _ _ _ _) Tryz.underlying51 (by kernel_rfl) info51s) rfl ?_
                  rw [← HPP.out]
                  exact leaf_out (HF3.out) HK10.out HQ10.out HPB.out (Nat.le_refl _) (Nat.le_of_lt HS4.out)
              · have HF2 := Lib.hid (HF1.out.trans (if_pos (by rw [← HT2.out, e0]; exact e2)))
                rw [e1] at hm9
                obtain ⟨rfl, hp9⟩ := hm9
                have HQ9 := Lib.hid hp9
                subst e0
                clear e1 e2 hp9
                have d0 : w7.cell? ⟨w4.heap.size, 0, none⟩ = some (.int .i64 3) := Lib.cell_of_heap HC9.out 0
                have g0 : w7.frozen? ⟨w4.heap.size, 0, none⟩ = false := Lib.frozen_of_heap HC9.out 0
                have d1 : w7.cell? ⟨w4.heap.size, 1, none⟩ = some (.string nm) := Lib.cell_of_heap HC9.out 1
                have g1 : w7.frozen? ⟨w4.heap.size, 1, none⟩ = false := Lib.frozen_of_heap HC9.out 1
                have d2 : w7.cell? ⟨w4.heap.size, 2, none⟩ = some (.string sg) := Lib.cell_of_heap HC9.out 2
                have g2 : w7.frozen? ⟨w4.heap.size, 2, none⟩ = false := Lib.frozen_of_heap HC9.out 2
                have d3 : w7.cell? ⟨w4.heap.size, 3, none⟩ = some (.int .i64 0) := Lib.cell_of_heap HC9.out 3
                have g3 : w7.frozen? ⟨w4.heap.size, 3, none⟩ = false := Lib.frozen_of_heap HC9.out 3
                have d4 : w7.cell? ⟨w4.heap.size, 4, none⟩ = some (.int .u64 0) := Lib.cell_of_heap HC9.out 4
                have g4 : w7.frozen? ⟨w4.heap.size, 4, none⟩ = false := Lib.frozen_of_heap HC9.out 4
                have d5 : w7.cell? ⟨w4.heap.size, 5, none⟩ = some (.string ⟨#[]⟩) := Lib.cell_of_heap HC9.out 5
                have g5 : w7.frozen? ⟨w4.heap.size, 5, none⟩ = false := Lib.frozen_of_heap HC9.out 5
                have d6 : w7.cell? ⟨w4.heap.size, 6, none⟩ = some (.slice none 0 0) := Lib.cell_of_heap HC9.out 6
                have g6 : w7.frozen? ⟨w4.heap.size, 6, none⟩ = false := Lib.frozen_of_heap HC9.out 6
                have q0 : w7.cell? ⟨w.heap.size, 0, none⟩ = some (.int .i64 0) := Lib.cell_of_heap HR9.out 0
                have f0 : w7.frozen? ⟨w.heap.size, 0, none⟩ = false := Lib.frozen_of_heap HR9.out 0
                have q1 : w7.cell? ⟨w.heap.size, 1, none⟩ = some (.string ⟨#[]⟩) := Lib.cell_of_heap HR9.out 1
                have f1 : w7.frozen? ⟨w.heap.size, 1, none⟩ = false := Lib.frozen_of_heap HR9.out 1
                have q2 : w7.cell? ⟨w.heap.size, 2, none⟩ = some (.string ⟨#[]⟩) := Lib.cell_of_heap HR9.out 2
                have f2 : w7.frozen? ⟨w.heap.size, 2, none⟩ = false := Lib.frozen_of_heap HR9.out 2
                have q3 : w7.cell? ⟨w.heap.size, 3, none⟩ = some (.int .i64 0) := Lib.cell_of_heap HR9.out 3
                have f3 : w7.frozen? ⟨w.heap.size, 3, none⟩ = false := Lib.frozen_of_heap HR9.out 3
                have q4 : w7.cell? ⟨w.heap.size, 4, none⟩ = some (.int .u64 0) := Lib.cell_of_heap HR9.out 4
                have f4 : w7.frozen? ⟨w.heap.size, 4, none⟩ = false := Lib.frozen_of_heap HR9.out 4
                have q5 : w7.cell? ⟨w.heap.size, 5, none⟩ = some (.string ⟨#[]⟩) := Lib.cell_of_heap HR9.out 5
                have f5 : w7.frozen? ⟨w.heap.size, 5, none⟩ = false := Lib.frozen_of_heap HR9.out 5
                have q6 : w7.cell? ⟨w.heap.size, 6, none⟩ = some (.slice none 0 0) := Lib.cell_of_heap HR9.out 6
                have f6 : w7.frozen? ⟨w.heap.size, 6, none⟩ = false := Lib.frozen_of_heap HR9.out 6
                have hne : w4.heap.size ≠ w.heap.size := by have := HS4.out; omega
                go_wp2_with fail
                refine bodyPost_ret (results_cell_row rfl _ _ w.heap.size 51 _ (0, 0) _ rfl (put7_heap ((put3c_far (by have := HS4.out; omega) _ _ _).trans HR9.out) _ _ _ _ _ _ _) Tryz.underlying51 (by kernel_rfl) info51s) rfl ?_
                rw [← HPP.out]
                exact leaf_out (HF2.out) HK9.out HQ9.out HPB.out (Nat.le_refl _) (Nat.le_of_lt HS4.out)
      · rw [e1] at hm3
        subst e0
        have htk : t0 = (kd, tx, at_) := HT.out
        subst htk
        have HE := Lib.hid (HEQ.out.trans (by rw [hop, e2]; rfl : _ = timeP r))
        clear e1 e2 hop
        obtain ⟨rfl, hp3⟩ := hm3
        have HQ3 := Lib.hid hp3
        have HMS := Lib.hid (sign_164 P n o r _ HQ3.out)
        clear hp3
        go_wp2_with fail
        refine HMS.out.mono ?_
        clear HMS
        rintro e w4 ⟨hk4, hm4⟩
        have HR4 := Lib.hid ((hk4.block w.heap.size HS3.out (by show ¬ w.heap.size = P; have := HPB.out; omega)).trans HR3.out)
        have HK4 := Lib.hid (HK3.out.then hk4)
        have HS4 := Lib.hid (lt_of_block HR4.out)
        clear hk4
        cases hsg : signP r with
        | error q =>
          rw [hsg] at hm4
          obtain rfl := hm4
          unfold stuckE
          simp (config := { zetaDelta := true }) only
          refine ⟨rfl, ?_⟩
          rw [← HPP.out, HE.out, timeP_err hsg]
          exact ⟨HK4.out, rfl⟩
        | ok sr =>
          obtain ⟨sg, r2⟩ := sr
          rw [hsg] at hm4
          obtain ⟨rfl, hp4⟩ := hm4
          have HSG := Lib.hid hsg
          have HQ5 := Lib.hid (hp4.later ((Below.refl _ _).alloc (Nat.le_refl _) (.cells #[.int .i64 4, .string ⟨#[]⟩, .string sg, .int .i64 0, .int .u64 0, .string ⟨#[]⟩, .slice none 0 0] 51 (0, 0))))
          have HC5 := Lib.hid (newest w4 (.cells #[.int .i64 4, .string ⟨#[]⟩, .string sg, .int .i64 0, .int .u64 0, .string ⟨#[]⟩, .slice none 0 0] 51 (0, 0)))
          have HK5 := Lib.hid (HK4.out.alloc (.cells #[.int .i64 4, .string ⟨#[]⟩, .string sg, .int .i64 0, .int .u64 0, .string ⟨#[]⟩, .slice none 0 0] 51 (0, 0)))
          have HR5 := Lib.hid ((Below.heap_alloc w4 (.cells #[.int .i64 4, .string ⟨#[]⟩, .string sg, .int .i64 0, .int .u64 0, .string ⟨#[]⟩, .slice none 0 0] 51 (0, 0)) _ HS4.out).trans HR4.out)
          have HMI := Lib.hid (integer_80 (-9223372036854775808) 9223372036854775807 P n o r2 W _ HR.out (HW.out.trans (HK5.out.below HW.out.size (fun k e => by show W.heap.size ≤ k; rw [e]; exact HWP.out))) HQ5.out)
          clear hp4 hsg
          go_wp2_with fail
          refine HMI.out.mono ?_
          clear HMI
          rintro e w5 ⟨hk5, hm5⟩
          have HR6 := Lib.hid ((hk5.block w.heap.size (lt_of_block HR5.out) (by show ¬ w.heap.size = P; have := HPB.out; omega)).trans HR5.out)
          have HC6 := Lib.hid ((hk5.block w4.heap.size (lt_of_block HC5.out) (by show ¬ w4.heap.size = P; have := HPB.out; have := HS4.out; omega)).trans HC5.out)
          have HK6 := Lib.hid (HK5.out.then hk5)
          clear hk5
          cases hin : intP (-9223372036854775808) 9223372036854775807 r2 with
          | error q =>
            rw [hin] at hm5
            obtain rfl := hm5
            unfold stuckE
            simp (config := { zetaDelta := true }) only
            refine ⟨rfl, ?_⟩
            rw [← HPP.out, HE.out, timeP_err2 HSG.out hin]
            exact ⟨HK6.out, rfl⟩
          | ok ir =>
            obtain ⟨m, r3⟩ := ir
            rw [hin] at hm5
            obtain ⟨rfl, hp5⟩ := hm5
            have HQ6 := Lib.hid hp5
            have HF := Lib.hid (HE.out.trans (timeP_ok HSG.out hin))
            clear hin hp5
            have d0 : w5.cell? ⟨w4.heap.size, 0, none⟩ = some (.int .i64 4) := Lib.cell_of_heap HC6.out 0
            have g0 : w5.frozen? ⟨w4.heap.size, 0, none⟩ = false := Lib.frozen_of_heap HC6.out 0
            have d1 : w5.cell? ⟨w4.heap.size, 1, none⟩ = some (.string ⟨#[]⟩) := Lib.cell_of_heap HC6.out 1
            have g1 : w5.frozen? ⟨w4.heap.size, 1, none⟩ = false := Lib.frozen_of_heap HC6.out 1
            have d2 : w5.cell? ⟨w4.heap.size, 2, none⟩ = some (.string sg) := Lib.cell_of_heap HC6.out 2
            have g2 : w5.frozen? ⟨w4.heap.size, 2, none⟩ = false := Lib.frozen_of_heap HC6.out 2
            have d3 : w5.cell? ⟨w4.heap.size, 3, none⟩ = some (.int .i64 0) := Lib.cell_of_heap HC6.out 3
            have g3 : w5.frozen? ⟨w4.heap.size, 3, none⟩ = false := Lib.frozen_of_heap HC6.out 3
            have d4 : w5.cell? ⟨w4.heap.size, 4, none⟩ = some (.int .u64 0) := Lib.cell_of_heap HC6.out 4
            have g4 : w5.frozen? ⟨w4.heap.size, 4, none⟩ = false := Lib.frozen_of_heap HC6.out 4
            have d5 : w5.cell? ⟨w4.heap.size, 5, none⟩ = some (.string ⟨#[]⟩) := Lib.cell_of_heap HC6.out 5
            have g5 : w5.frozen? ⟨w4.heap.size, 5, none⟩ = false := Lib.frozen_of_heap HC6.out 5
            have d6 : w5.cell? ⟨w4.heap.size, 6, none⟩ = some (.slice none 0 0) := Lib.cell_of_heap HC6.out 6
            have g6 : w5.frozen? ⟨w4.heap.size, 6, none⟩ = false := Lib.frozen_of_heap HC6.out 6
            have q0 : w5.cell? ⟨w.heap.size, 0, none⟩ = some (.int .i64 0) := Lib.cell_of_heap HR6.out 0
            have f0 : w5.frozen? ⟨w.heap.size, 0, none⟩ = false := Lib.frozen_of_heap HR6.out 0
            have q1 : w5.cell? ⟨w.heap.size, 1, none⟩ = some (.string ⟨#[]⟩) := Lib.cell_of_heap HR6.out 1
            have f1 : w5.frozen? ⟨w.heap.size, 1, none⟩ = false := Lib.frozen_of_heap HR6.out 1
            have q2 : w5.cell? ⟨w.heap.size, 2, none⟩ = some (.string ⟨#[]⟩) := Lib.cell_of_heap HR6.out 2
            have f2 : w5.frozen? ⟨w.heap.size, 2, none⟩ = false := Lib.frozen_of_heap HR6.out 2
            have q3 : w5.cell? ⟨w.heap.size, 3, none⟩ = some (.int .i64 0) := Lib.cell_of_heap HR6.out 3
            have f3 : w5.frozen? ⟨w.heap.size, 3, none⟩ = false := Lib.frozen_of_heap HR6.out 3
            have q4 : w5.cell? ⟨w.heap.size, 4, none⟩ = some (.int .u64 0) := Lib.cell_of_heap HR6.out 4
            have f4 : w5.frozen? ⟨w.heap.size, 4, none⟩ = false := Lib.frozen_of_heap HR6.out 4
            have q5 : w5.cell? ⟨w.heap.size, 5, none⟩ = some (.string ⟨#[]⟩) := Lib.cell_of_heap HR6.out 5
            have f5 : w5.frozen? ⟨w.heap.size, 5, none⟩ = false := Lib.frozen_of_heap HR6.out 5
            have q6 : w5.cell? ⟨w.heap.size, 6, none⟩ = some (.slice none 0 0) := Lib.cell_of_heap HR6.out 6
            have f6 : w5.frozen? ⟨w.heap.size, 6, none⟩ = false := Lib.frozen_of_heap HR6.out 6
            have hne : w4.heap.size ≠ w.heap.size := by have := HS4.out; omega
            go_wp2_with fail
            refine bodyPost_ret (results_cell_row rfl _ _ w.heap.size 51 _ (0, 0) _ rfl (put7_heap ((put3c_far (by have := HS4.out; omega) _ _ _).trans HR6.out) _ _ _ _ _ _ _) Tryz.underlying51 (by kernel_rfl) info51s) rfl ?_
            rw [← HPP.out]
            exact leaf_out (HF.out) HK6.out HQ6.out HPB.out (Nat.le_refl _) (Nat.le_of_lt HS4.out)
    · have hk5b : (kd == 5) = false := by simp [hk5]
      clear hk5
      have HR2 := Lib.hid ((Below.heap_alloc w1 (.cells #[.int .i64 kd, .string tx, .int .i64 at_] 96 (0, 0)) _ HS1.out).trans HR1.out)
      have HQ2 := Lib.hid (HP.out.later HB2.out)
      have HM := Lib.hid (fun w' hW' hP' => has_42 P n o ⟨#[84, 73, 77, 69]⟩ wTIME [] words1.1 ts W w' HR.out.env hW' hP')
      have HS2 : Hid (w.heap.size < (w1.alloc (.cells #[.int .i64 kd, .string tx, .int .i64 at_] 96 (0, 0))).heap.size) := Lib.hid (lt_of_block HR2.out)
      go_wp2_with fail
      refine (HM.out _ (HW.out.trans ((Kp.of (S := (· = P)) HB2.out).below HW.out.size (fun k e => by show W.heap.size ≤ k; rw [e]; exact HWP.out))) HQ2.out).mono ?_
      rintro e w3 ⟨hk3, hm3⟩
      have HR3 := Lib.hid ((hk3.block w.heap.size HS2.out (by show ¬ w.heap.size = P; have := HPB.out; omega)).trans HR2.out)
      have HK3 := Lib.hid ((Kp.of HB2.out).then hk3)
      have HS3 := Lib.hid (lt_of_block HR3.out)
      have hhas := has_one wTIME ts
      rw [HT.out] at hhas
      clear hk3
      rcases hhas with ⟨e1, e2⟩ | ⟨t0, r, e0, e1, e2⟩
      · rw [e1] at hm3
        have HE := Lib.hid (HEQ.out.trans (by rw [hop, e2]; rfl : _ = leafP V ts))
        clear e1 e2 hop
        obtain ⟨rfl, hp3⟩ := hm3
        have HQ3 := Lib.hid hp3
        clear hp3
        have HMN := Lib.hid (name_43 P n o ts W w3 HR.out.env (HW.out.trans (HK3.out.below HW.out.size (fun k e => by show W.heap.size ≤ k; rw [e]; exact HWP.out))) HQ3.out)
        go_wp2_with fail
        refine HMN.out.mono ?_
        clear HMN
        rintro e w4 ⟨hk4, hm4⟩
        have HR4 := Lib.hid ((hk4.block w.heap.size HS3.out (by show ¬ w.heap.size = P; have := HPB.out; omega)).trans HR3.out)
        have HK4 := Lib.hid (HK3.out.then hk4)
        have HS4 := Lib.hid (lt_of_block HR4.out)
        clear hk4
        cases hnm : nameP ts with
        | error q =>
          rw [hnm] at hm4
          obtain rfl := hm4
          unfold stuckE
          simp (config := { zetaDelta := true }) only
          refine ⟨rfl, ?_⟩
          rw [← HPP.out, HE.out, leafP_err hnm]
          exact ⟨HK4.out, rfl⟩
        | ok nr =>
          obtain ⟨nm, r⟩ := nr
          rw [hnm] at hm4
          obtain ⟨rfl, hp4⟩ := hm4
          have HNM := Lib.hid hnm
          have HQ5 := Lib.hid (hp4.later ((Below.refl _ _).alloc (Nat.le_refl _) (.cells #[.int .i64 3, .string nm, .string ⟨#[]⟩, .int .i64 0, .int .u64 0, .string ⟨#[]⟩, .slice none 0 0] 51 (0, 0))))
          have HC5 := Lib.hid (newest w4 (.cells #[.int .i64 3, .string nm, .string ⟨#[]⟩, .int .i64 0, .int .u64 0, .string ⟨#[]⟩, .slice none 0 0] 51 (0, 0)))
          have HK5 := Lib.hid (HK4.out.alloc (.cells #[.int .i64 3, .string nm, .string ⟨#[]⟩, .int .i64 0, .int .u64 0, .string ⟨#[]⟩, .slice none 0 0] 51 (0, 0)))
          have HR5 := Lib.hid ((Below.heap_alloc w4 (.cells #[.int .i64 3, .string nm, .string ⟨#[]⟩, .int .i64 0, .int .u64 0, .string ⟨#[]⟩, .slice none 0 0] 51 (0, 0)) _ HS4.out).trans HR4.out)
          have HMS := Lib.hid (sign_164 P n o r _ HQ5.out)
          clear hp4 hnm
          go_wp2_with fail
          refine HMS.out.mono ?_
          clear HMS
          rintro e w5 ⟨hk5, hm5⟩
          have HR6 := Lib.hid ((hk5.block w.heap.size (lt_of_block HR5.out) (by show ¬ w.heap.size = P; have := HPB.out; omega)).trans HR5.out)
          have HC6 := Lib.hid ((hk5.block w4.heap.size (lt_of_block HC5.out) (by show ¬ w4.heap.size = P; have := HPB.out; have := HS4.out; omega)).trans HC5.out)
          have HK6 := Lib.hid (HK5.out.then hk5)
          clear hk5
          cases hsg : signP r with
          | error q =>
            rw [hsg] at hm5
            obtain rfl := hm5
            unfold stuckE
            simp (config := { zetaDelta := true }) only
            refine ⟨rfl, ?_⟩
            rw [← HPP.out, HE.out, leafP_err2 HNM.out hsg]
            exact ⟨HK6.out, rfl⟩
          | ok sr =>
            obtain ⟨sg, r2⟩ := sr
            rw [hsg] at hm5
            obtain ⟨rfl, hp5⟩ := hm5
            have HLF := Lib.hid (HE.out.trans (leafP_ok HNM.out hsg))
            have hPC : P < w4.heap.size := by have := HPB.out; have := HS4.out; omega
            have HQ7 := Lib.hid (hp5.set (p := ⟨w4.heap.size, 2, none⟩) hPC (.string sg))
            have HC7 : Hid ((w5.setCell ⟨w4.heap.size, 2, none⟩ (.string sg)).heap[w4.heap.size]? = some (.cells #[.int .i64 3, .string nm, .string sg, .int .i64 0, .int .u64 0, .string ⟨#[]⟩, .slice none 0 0] 51 (0, 0))) := Lib.hid (heap_setCell_same _ _ _ _ _ _ HC6.out)
            have HR7 := Lib.hid ((heap_setCell_other w5 ⟨w4.heap.size, 2, none⟩ w.heap.size (.string sg) (by show w.heap.size ≠ w4.heap.size; have := HS4.out; omega)).trans HR6.out)
            have HK7 := Lib.hid (HK6.out.set (p := ⟨w4.heap.size, 2, none⟩) (.inr (Nat.le_of_lt HS4.out)) (.string sg))
            have HPK := Lib.hid (peek_71 P n o r2 _ HQ7.out)
            have m2 : w5.cell? ⟨w4.heap.size, 2, none⟩ = some (.string ⟨#[]⟩) := Lib.cell_of_heap HC6.out 2
            have n2 : w5.frozen? ⟨w4.heap.size, 2, none⟩ = false := Lib.frozen_of_heap HC6.out 2
            obtain ⟨⟨k2, x2, a2⟩, ht2⟩ : ∃ t, hdT r2 = t := ⟨_, rfl⟩
            have hrp := rightP_eq V nm sg r2
            rw [ht2] at hrp HPK
            unfold tokV at HPK
            have HRP := Lib.hid (HLF.out.trans hrp)
            have HT2 := Lib.hid ht2
            clear hsg hp5 hPC hrp ht2
            go_wp2_with fail
            refine HPK.out.mono ?_
            clear HPK
            rintro e w6 ⟨rfl, hb6⟩
            have HQ8 := Lib.hid (HQ7.out.later (hb6.alloc hb6.size (.cells #[.int .i64 k2, .string x2, .int .i64 a2] 96 (0, 0))))
            have HK8 := Lib.hid (HK7.out.then (Kp.of (hb6.alloc hb6.size (.cells #[.int .i64 k2, .string x2, .int .i64 a2] 96 (0, 0)))))
            have HC8 := Lib.hid (((hb6.alloc hb6.size (.cells #[.int .i64 k2, .string x2, .int .i64 a2] 96 (0, 0))).block _ (lt_of_block HC7.out)).trans HC7.out)
            have HR8 := Lib.hid (((hb6.alloc hb6.size (.cells #[.int .i64 k2, .string x2, .int .i64 a2] 96 (0, 0))).block _ (lt_of_block HR7.out)).trans HR7.out)
            have HT8 := Lib.hid (newest w6 (.cells #[.int .i64 k2, .string x2, .int .i64 a2] 96 (0, 0)))
            have HS8 : Hid (w4.heap.size < w6.heap.size) := Lib.hid (Nat.lt_of_lt_of_le (lt_of_block HC7.out) hb6.size)
            clear hb6 m2 n2
            by_cases h4 : k2 = 4
            · subst h4
              obtain ⟨r3, hr3⟩ := hd_cons HT2.out (by show (4 : Int) ≠ 0; decide)
              subst hr3
              have HF := Lib.hid (HRP.out.trans (if_pos rfl))
              have HPO := Lib.hid (pop_72 P n o _ r3 _ HQ8.out)
              go_wp2_with fail
              refine HPO.out.mono ?_
              clear HPO
              rintro e w7 ⟨rfl, hk9, hp9⟩
              have HC9 := Lib.hid ((hk9.block w4.heap.size (lt_of_block HC8.out) (by show ¬ w4.heap.size = P; have := HPB.out; have := HS4.out; omega)).trans HC8.out)
              have HR9 := Lib.hid ((hk9.block w.heap.size (lt_of_block HR8.out) (by show ¬ w.heap.size = P; have := HPB.out; omega)).trans HR8.out)
              have HT9 := Lib.hid ((hk9.block w6.heap.size (lt_of_block HT8.out) (by show ¬ w6.heap.size = P; have := HPB.out; have := HS4.out; have := HS8.out; omega)).trans HT8.out)
              have HK9 := Lib.hid (HK8.out.then hk9)
              have HQ9 := Lib.hid hp9
              clear hk9 hp9
              have t1 : w7.cell? ⟨w6.heap.size, 1, none⟩ = some (.string x2) := Lib.cell_of_heap HT9.out 1
              have d0 : w7.cell? ⟨w4.heap.size, 0, none⟩ = some (.int .i64 3) := Lib.cell_of_heap HC9.out 0
              have g0 : w7.frozen? ⟨w4.heap.size, 0, none⟩ = false := Lib.frozen_of_heap HC9.out 0
              have d1 : w7.cell? ⟨w4.heap.size, 1, none⟩ = some (.string nm) := Lib.cell_of_heap HC9.out 1
              have g1 : w7.frozen? ⟨w4.heap.size, 1, none⟩ = false := Lib.frozen_of_heap HC9.out 1
              have d2 : w7.cell? ⟨w4.heap.size, 2, none⟩ = some (.string sg) := Lib.cell_of_heap HC9.out 2
              have g2 : w7.frozen? ⟨w4.heap.size, 2, none⟩ = false := Lib.frozen_of_heap HC9.out 2
              have d3 : w7.cell? ⟨w4.heap.size, 3, none⟩ = some (.int .i64 0) := Lib.cell_of_heap HC9.out 3
              have g3 : w7.frozen? ⟨w4.heap.size, 3, none⟩ = false := Lib.frozen_of_heap HC9.out 3
              have d4 : w7.cell? ⟨w4.heap.size, 4, none⟩ = some (.int .u64 0) := Lib.cell_of_heap HC9.out 4
              have g4 : w7.frozen? ⟨w4.heap.size, 4, none⟩ = false := Lib.frozen_of_heap HC9.out 4
              have d5 : w7.cell? ⟨w4.heap.size, 5, none⟩ = some (.string ⟨#[]⟩) := Lib.cell_of_heap HC9.out 5
              have g5 : w7.frozen? ⟨w4.heap.size, 5, none⟩ = false := Lib.frozen_of_heap HC9.out 5
              have d6 : w7.cell? ⟨w4.heap.size, 6, none⟩ = some (.slice none 0 0) := Lib.cell_of_heap HC9.out 6
              have g6 : w7.frozen? ⟨w4.heap.size, 6, none⟩ = false := Lib.frozen_of_heap HC9.out 6
              have q0 : w7.cell? ⟨w.heap.size, 0, none⟩ = some (.int .i64 0) := Lib.cell_of_heap HR9.out 0
              have f0 : w7.frozen? ⟨w.heap.size, 0, none⟩ = false := Lib.frozen_of_heap HR9.out 0
              have q1 : w7.cell? ⟨w.heap.size, 1, none⟩ = some (.string ⟨#[]⟩) := Lib.cell_of_heap HR9.out 1
              have f1 : w7.frozen? ⟨w.heap.size, 1, none⟩ = false := Lib.frozen_of_heap HR9.out 1
              have q2 : w7.cell? ⟨w.heap.size, 2, none⟩ = some (.string ⟨#[]⟩) := Lib.cell_of_heap HR9.out 2
              have f2 : w7.frozen? ⟨w.heap.size, 2, none⟩ = false := Lib.frozen_of_heap HR9.out 2
              have q3 : w7.cell? ⟨w.heap.size, 3, none⟩ = some (.int .i64 0) := Lib.cell_of_heap HR9.out 3
              have f3 : w7.frozen? ⟨w.heap.size, 3, none⟩ = false := Lib.frozen_of_heap HR9.out 3
              have q4 : w7.cell? ⟨w.heap.size, 4, none⟩ = some (.int .u64 0) := Lib.cell_of_heap HR9.out 4
              have f4 : w7.frozen? ⟨w.heap.size, 4, none⟩ = false := Lib.frozen_of_heap HR9.out 4
              have q5 : w7.cell? ⟨w.heap.size, 5, none⟩ = some (.string ⟨#[]⟩) := Lib.cell_of_heap HR9.out 5
              have f5 : w7.frozen? ⟨w.heap.size, 5, none⟩ = false := Lib.frozen_of_heap HR9.out 5
              have q6 : w7.cell? ⟨w.heap.size, 6, none⟩ = some (.slice none 0 0) := Lib.cell_of_heap HR9.out 6
              have f6 : w7.frozen? ⟨w.heap.size, 6, none⟩ = false := Lib.frozen_of_heap HR9.out 6
              have hne : w4.heap.size ≠ w.heap.size := by have := HS4.out; omega
              go_wp2_with fail
              refine bodyPost_ret (results_cell_row rfl _ _ w.heap.size 51 _ (0, 0) _ rfl (put7_heap ((put3c_far (by have := HS4.out; omega) _ _ _).trans HR9.out) _ _ _ _ _ _ _) Tryz.underlying51 (by kernel_rfl) info51s) rfl ?_
              rw [← HPP.out]
              exact leaf_out (HF.out) HK9.out HQ9.out HPB.out (Nat.le_refl _) (Nat.le_of_lt HS4.out)
            · have h4b : (k2 == 4) = false := by simp [h4]
              have HF1 := Lib.hid (HRP.out.trans (if_neg h4))
              have HM1 := Lib.hid (has_42 P n o ⟨#[84, 82, 85, 69]⟩ wTRUE [] words1.2.1 r2 W _ HR.out.env (HW.out.trans (HK8.out.below HW.out.size (fun k e => by show W.heap.size ≤ k; rw [e]; exact HWP.out))) HQ8.out)
              clear h4
              go_wp2_with fail
              refine HM1.out.mono ?_
              clear HM1
              rintro e w7 ⟨hk9, hm9⟩
              have HC9 := Lib.hid ((hk9.block w4.heap.size (lt_of_block HC8.out) (by show ¬ w4.heap.size = P; have := HPB.out; have := HS4.out; omega)).trans HC8.out)
              have HR9 := Lib.hid ((hk9.block w.heap.size (lt_of_block HR8.out) (by show ¬ w.heap.size = P; have := HPB.out; omega)).trans HR8.out)
              have HK9 := Lib.hid (HK8.out.then hk9)
              have hhas := has_one wTRUE r2
              rw [HT2.out] at hhas
              clear hk9
              rcases hhas with ⟨e1, e2⟩ | ⟨t0, r3, e0, e1, e2⟩
              · have HF2 := Lib.hid (HF1.out.trans (if_neg (by rw [e2]; decide)))
                rw [e1] at hm9
                obtain ⟨rfl, hp9⟩ := hm9
                have HQ9 := Lib.hid hp9
                have HM2 := Lib.hid (has_42 P n o ⟨#[70, 65, 76, 83, 69]⟩ wFALSE [] words1.2.2.1 r2 W _ HR.out.env (HW.out.trans (HK9.out.below HW.out.size (fun k e => by show W.heap.size ≤ k; rw [e]; exact HWP.out))) HQ9.out)
                clear e1 e2 hp9
                go_wp2_with fail
                refine HM2.out.mono ?_
                clear HM2
                rintro e w8 ⟨hk10, hm10⟩
                have HC10 := Lib.hid ((hk10.block w4.heap.size (lt_of_block HC9.out) (by show ¬ w4.heap.size = P; have := HPB.out; have := HS4.out; omega)).trans HC9.out)
                have HR10 := Lib.hid ((hk10.block w.heap.size (lt_of_block HR9.out) (by show ¬ w.heap.size = P; have := HPB.out; omega)).trans HR9.out)
                have HK10 := Lib.hid (HK9.out.then hk10)
                have hhas := has_one wFALSE r2
                rw [HT2.out] at hhas
                clear hk10
                rcases hhas with ⟨e1, e2⟩ | ⟨t0, r3, e0, e1, e2⟩
                · have HF3 := Lib.hid (HF2.out.trans (if_neg (by rw [e2]; decide)))
                  rw [e1] at hm10
                  obtain ⟨rfl, hp10⟩ := hm10
                  have HQ10 := Lib.hid hp10
                  have HMM := Lib.hid (number_79 P n o r2 W w8 HR.out (HW.out.trans (HK10.out.below HW.out.size (fun k e => by show W.heap.size ≤ k; rw [e]; exact HWP.out))) HQ10.out)
                  clear e1 e2 hp10
                  go_wp2_with fail
                  refine HMM.out.mono ?_
                  clear HMM
                  rintro e w9 ⟨hk11, hm11⟩
                  have HC11 := Lib.hid ((hk11.block w4.heap.size (lt_of_block HC10.out) (by show ¬ w4.heap.size = P; have := HPB.out; have := HS4.out; omega)).trans HC10.out)
                  have HR11 := Lib.hid ((hk11.block w.heap.size (lt_of_block HR10.out) (by show ¬ w.heap.size = P; have := HPB.out; omega)).trans HR10.out)
                  have HK11 := Lib.hid (HK10.out.then hk11)
                  clear hk11
                  cases hnu : numP V r2 with
                  | none =>
                    rw [hnu] at hm11
                    obtain ⟨rfl, hp11⟩ := hm11
                    have HQ11 := Lib.hid hp11
                    have HF4 := Lib.hid (HF3.out.trans (by rw [hnu]))
                    clear hnu hp11
                    unfold valV val0
                    go_wp2_with fail
                    refine (wrong_24 P n o r2 _ (HQ11.out.later ((Below.refl _ _).alloc (Nat.le_refl _) _))).mono ?_
                    rintro e w12 ⟨rfl, rfl⟩
                    unfold stuckE
                    simp (config := { zetaDelta := true }) only
                    refine ⟨rfl, ?_⟩
                    rw [← HPP.out, HF4.out]
                    exact ⟨HK11.out.alloc _, rfl⟩
                  | some vr =>
                    obtain ⟨⟨vk, vb, vt⟩, r3⟩ := vr
                    rw [hnu] at hm11
                    obtain ⟨rfl, hp11⟩ := hm11
                    have HF4 := Lib.hid (HF3.out.trans (by rw [hnu]))
                    have HQ12 := Lib.hid (hp11.later ((Below.refl _ _).alloc (Nat.le_refl _) (.cells #[.int .i64 vk, .int .u64 vb, .string vt] 28 (0, 0))))
                    have HK12 := Lib.hid (HK11.out.alloc (.cells #[.int .i64 vk, .int .u64 vb, .string vt] 28 (0, 0)))
                    have HC12 := Lib.hid ((Below.heap_alloc w9 (.cells #[.int .i64 vk, .int .u64 vb, .string vt] 28 (0, 0)) _ (lt_of_block HC11.out)).trans HC11.out)
                    have HR12 := Lib.hid ((Below.heap_alloc w9 (.cells #[.int .i64 vk, .int .u64 vb, .string vt] 28 (0, 0)) _ (lt_of_block HR11.out)).trans HR11.out)
                    clear hnu hp11
                    unfold valV
                    have d0 : (w9.alloc (.cells #[.int .i64 vk, .int .u64 vb, .string vt] 28 (0, 0))).cell? ⟨w4.heap.size, 0, none⟩ = some (.int .i64 3) := Lib.cell_of_heap HC12.out 0
                    have g0 : (w9.alloc (.cells #[.int .i64 vk, .int .u64 vb, .string vt] 28 (0, 0))).frozen? ⟨w4.heap.size, 0, none⟩ = false := Lib.frozen_of_heap HC12.out 0
                    have d1 : (w9.alloc (.cells #[.int .i64 vk, .int .u64 vb, .string vt] 28 (0, 0))).cell? ⟨w4.heap.size, 1, none⟩ = some (.string nm) := Lib.cell_of_heap HC12.out 1
                    have g1 : (w9.alloc (.cells #[.int .i64 vk, .int .u64 vb, .string vt] 28 (0, 0))).frozen? ⟨w4.heap.size, 1, none⟩ = false := Lib.frozen_of_heap HC12.out 1
                    have d2 : (w9.alloc (.cells #[.int .i64 vk, .int .u64 vb, .string vt] 28 (0, 0))).cell? ⟨w4.heap.size, 2, none⟩ = some (.string sg) := Lib.cell_of_heap HC12.out 2
                    have g2 : (w9.alloc (.cells #[.int .i64 vk, .int .u64 vb, .string vt] 28 (0, 0))).frozen? ⟨w4.heap.size, 2, none⟩ = false := Lib.frozen_of_heap HC12.out 2
                    have d3 : (w9.alloc (.cells #[.int .i64 vk, .int .u64 vb, .string vt] 28 (0, 0))).cell? ⟨w4.heap.size, 3, none⟩ = some (.int .i64 0) := Lib.cell_of_heap HC12.out 3
                    have g3 : (w9.alloc (.cells #[.int .i64 vk, .int .u64 vb, .string vt] 28 (0, 0))).frozen? ⟨w4.heap.size, 3, none⟩ = false := Lib.frozen_of_heap HC12.out 3
                    have d4 : (w9.alloc (.cells #[.int .i64 vk, .int .u64 vb, .string vt] 28 (0, 0))).cell? ⟨w4.heap.size, 4, none⟩ = some (.int .u64 0) := Lib.cell_of_heap HC12.out 4
                    have g4 : (w9.alloc (.cells #[.int .i64 vk, .int .u64 vb, .string vt] 28 (0, 0))).frozen? ⟨w4.heap.size, 4, none⟩ = false := Lib.frozen_of_heap HC12.out 4
                    have d5 : (w9.alloc (.cells #[.int .i64 vk, .int .u64 vb, .string vt] 28 (0, 0))).cell? ⟨w4.heap.size, 5, none⟩ = some (.string ⟨#[]⟩) := Lib.cell_of_heap HC12.out 5
                    have g5 : (w9.alloc (.cells #[.int .i64 vk, .int .u64 vb, .string vt] 28 (0, 0))).frozen? ⟨w4.heap.size, 5, none⟩ = false := Lib.frozen_of_heap HC12.out 5
                    have d6 : (w9.alloc (.cells #[.int .i64 vk, .int .u64 vb, .string vt] 28 (0, 0))).cell? ⟨w4.heap.size, 6, none⟩ = some (.slice none 0 0) := Lib.cell_of_heap HC12.out 6
                    have g6 : (w9.alloc (.cells #[.int .i64 vk, .int .u64 vb, .string vt] 28 (0, 0))).frozen? ⟨w4.heap.size, 6, none⟩ = false := Lib.frozen_of_heap HC12.out 6
                    have q0 : (w9.alloc (.cells #[.int .i64 vk, .int .u64 vb, .string vt] 28 (0, 0))).cell? ⟨w.heap.size, 0, none⟩ = some (.int .i64 0) := Lib.cell_of_heap HR12.out 0
                    have f0 : (w9.alloc (.cells #[.int .i64 vk, .int .u64 vb, .string vt] 28 (0, 0))).frozen? ⟨w.heap.size, 0, none⟩ = false := Lib.frozen_of_heap HR12.out 0
                    have q1 : (w9.alloc (.cells #[.int .i64 vk, .int .u64 vb, .string vt] 28 (0, 0))).cell? ⟨w.heap.size, 1, none⟩ = some (.string ⟨#[]⟩) := Lib.cell_of_heap HR12.out 1
                    have f1 : (w9.alloc (.cells #[.int .i64 vk, .int .u64 vb, .string vt] 28 (0, 0))).frozen? ⟨w.heap.size, 1, none⟩ = false := Lib.frozen_of_heap HR12.out 1
                    have q2 : (w9.alloc (.cells #[.int .i64 vk, .int .u64 vb, .string vt] 28 (0, 0))).cell? ⟨w.heap.size, 2, none⟩ = some (.string ⟨#[]⟩) := Lib.cell_of_heap HR12.out 2
                    have f2 : (w9.alloc (.cells #[.int .i64 vk, .int .u64 vb, .string vt] 28 (0, 0))).frozen? ⟨w.heap.size, 2, none⟩ = false := Lib.frozen_of_heap HR12.out 2
                    have q3 : (w9.alloc (.cells #[.int .i64 vk, .int .u64 vb, .string vt] 28 (0, 0))).cell? ⟨w.heap.size, 3, none⟩ = some (.int .i64 0) := Lib.cell_of_heap HR12.out 3
                    have f3 : (w9.alloc (.cells #[.int .i64 vk, .int .u64 vb, .string vt] 28 (0, 0))).frozen? ⟨w.heap.size, 3, none⟩ = false := Lib.frozen_of_heap HR12.out 3
                    have q4 : (w9.alloc (.cells #[.int .i64 vk, .int .u64 vb, .string vt] 28 (0, 0))).cell? ⟨w.heap.size, 4, none⟩ = some (.int .u64 0) := Lib.cell_of_heap HR12.out 4
                    have f4 : (w9.alloc (.cells #[.int .i64 vk, .int .u64 vb, .string vt] 28 (0, 0))).frozen? ⟨w.heap.size, 4, none⟩ = false := Lib.frozen_of_heap HR12.out 4
                    have q5 : (w9.alloc (.cells #[.int .i64 vk, .int .u64 vb, .string vt] 28 (0, 0))).cell? ⟨w.heap.size, 5, none⟩ = some (.string ⟨#[]⟩) := Lib.cell_of_heap HR12.out 5
                    have f5 : (w9.alloc (.cells #[.int .i64 vk, .int .u64 vb, .string vt] 28 (0, 0))).frozen? ⟨w.heap.size, 5, none⟩ = false := Lib.frozen_of_heap HR12.out 5
                    have q6 : (w9.alloc (.cells #[.int .i64 vk, .int .u64 vb, .string vt] 28 (0, 0))).cell? ⟨w.heap.size, 6, none⟩ = some (.slice none 0 0) := Lib.cell_of_heap HR12.out 6
                    have f6 : (w9.alloc (.cells #[.int .i64 vk, .int .u64 vb, .string vt] 28 (0, 0))).frozen? ⟨w.heap.size, 6, none⟩ = false := Lib.frozen_of_heap HR12.out 6
                    have hne : w4.heap.size ≠ w.heap.size := by have := HS4.out; omega
                    go_wp2_with fail
                    refine bodyPost_ret (results_cell_row rfl _ _ w.heap.size 51 _ (0, 0) _ rfl (put7_heap ((put3c_far (by have := HS4.out; omega) _ _ _).trans HR12.out) _ _ _ _ _ _ _) Tryz.underlying51 (by kernel_rfl) info51s) rfl ?_
                    rw [← HPP.out]
                    exact leaf_out (HF4.out) HK12.out HQ12.out HPB.out (Nat.le_refl _) (Nat.le_of_lt HS4.out)
                · have HF3 := Lib.hid (HF2.out.trans (if_pos (by rw [← HT2.out, e0]; exact e2)))
                  rw [e1] at hm10
                  obtain ⟨rfl, hp10⟩ := hm10
                  have HQ10 := Lib.hid hp10
                  subst e0
                  clear e1 e2 hp10
                  have d0 : w8.cell? ⟨w4.heap.size, 0, none⟩ = some (.int .i64 3) := Lib.cell_of_heap HC10.out 0
                  have g0 : w8.frozen? ⟨w4.heap.size, 0, none⟩ = false := Lib.frozen_of_heap HC10.out 0
                  have d1 : w8.cell? ⟨w4.heap.size, 1, none⟩ = some (.string nm) := Lib.cell_of_heap HC10.out 1
                  have g1 : w8.frozen? ⟨w4.heap.size, 1, none⟩ = false := Lib.frozen_of_heap HC10.out 1
                  have d2 : w8.cell? ⟨w4.heap.size, 2, none⟩ = some (.string sg) := Lib.cell_of_heap HC10.out 2
                  have g2 : w8.frozen? ⟨w4.heap.size, 2, none⟩ = false := Lib.frozen_of_heap HC10.out 2
                  have d3 : w8.cell? ⟨w4.heap.size, 3, none⟩ = some (.int .i64 0) := Lib.cell_of_heap HC10.out 3
                  have g3 : w8.frozen? ⟨w4.heap.size, 3, none⟩ = false := Lib.frozen_of_heap HC10.out 3
                  have d4 : w8.cell? ⟨w4.heap.size, 4, none⟩ = some (.int .u64 0) := Lib.cell_of_heap HC10.out 4
                  have g4 : w8.frozen? ⟨w4.heap.size, 4, none⟩ = false := Lib.frozen_of_heap HC10.out 4
                  have d5 : w8.cell? ⟨w4.heap.size, 5, none⟩ = some (.string ⟨#[]⟩) := Lib.cell_of_heap HC10.out 5
                  have g5 : w8.frozen? ⟨w4.heap.size, 5, none⟩ = false := Lib.frozen_of_heap HC10.out 5
                  have d6 : w8.cell? ⟨w4.heap.size, 6, none⟩ = some (.slice none 0 0) := Lib.cell_of_heap HC10.out 6
                  have g6 : w8.frozen? ⟨w4.heap.size, 6, none⟩ = false := Lib.frozen_of_heap HC10.out 6
                  have q0 : w8.cell? ⟨w.heap.size, 0, none⟩ = some (.int .i64 0) := Lib.cell_of_heap HR10.out 0
                  have f0 : w8.frozen? ⟨w.heap.size, 0, none⟩ = false := Lib.frozen_of_heap HR10.out 0
                  have q1 : w8.cell? ⟨w.heap.size, 1, none⟩ = some (.string ⟨#[]⟩) := Lib.cell_of_heap HR10.out 1
                  have f1 : w8.frozen? ⟨w.heap.size, 1, none⟩ = false := Lib.frozen_of_heap HR10.out 1
                  have q2 : w8.cell? ⟨w.heap.size, 2, none⟩ = some (.string ⟨#[]⟩) := Lib.cell_of_heap HR10.out 2
                  have f2 : w8.frozen? ⟨w.heap.size, 2, none⟩ = false := Lib.frozen_of_heap HR10.out 2
                  have q3 : w8.cell? ⟨w.heap.size, 3, none⟩ = some (.int .i64 0) := Lib.cell_of_heap HR10.out 3
                  have f3 : w8.frozen? ⟨w.heap.size, 3, none⟩ = false := Lib.frozen_of_heap HR10.out 3
                  have q4 : w8.cell? ⟨w.heap.size, 4, none⟩ = some (.int .u64 0) := Lib.cell_of_heap HR10.out 4
                  have f4 : w8.frozen? ⟨w.heap.size, 4, none⟩ = false := Lib.frozen_of_heap HR10.out 4
                  have q5 : w8.cell? ⟨w.heap.size, 5, none⟩ = some (.string ⟨#[]⟩) := Lib.cell_of_heap HR10.out 5
                  have f5 : w8.frozen? ⟨w.heap.size, 5, none⟩ = false := Lib.frozen_of_heap HR10.out 5
                  have q6 : w8.cell? ⟨w.heap.size, 6, none⟩ = some (.slice none 0 0) := Lib.cell_of_heap HR10.out 6
                  have f6 : w8.frozen? ⟨w.heap.size, 6, none⟩ = false := Lib.frozen_of_heap HR10.out 6
                  have hne : w4.heap.size ≠ w.heap.size := by have := HS4.out; omega
                  go_wp2_with fail
                  refine bodyPost_ret (results_cell_row rfl _ _ w.heap.size 51 _ (0, 0) _ rfl (put7_heap ((put3c_far (by have := HS4.out; omega) _ _ _).trans HR10.out) _ _ _ _ _ _ _) Tryz.underlying51 (by kernel_rfl) info51s) rfl ?_
                  rw [← HPP.out]
                  exact leaf_out (HF3.out) HK10.out HQ10.out HPB.out (Nat.le_refl _) (Nat.le_of_lt HS4.out)
              · have HF2 := Lib.hid (HF1.out.trans (if_pos (by rw [← HT2.out, e0]; exact e2)))
                rw [e1] at hm9
                obtain ⟨rfl, hp9⟩ := hm9
                have HQ9 := Lib.hid hp9
                subst e0
                clear e1 e2 hp9
                have d0 : w7.cell? ⟨w4.heap.size, 0, none⟩ = some (.int .i64 3) := Lib.cell_of_heap HC9.out 0
                have g0 : w7.frozen? ⟨w4.heap.size, 0, none⟩ = false := Lib.frozen_of_heap HC9.out 0
                have d1 : w7.cell? ⟨w4.heap.size, 1, none⟩ = some (.string nm) := Lib.cell_of_heap HC9.out 1
                have g1 : w7.frozen? ⟨w4.heap.size, 1, none⟩ = false := Lib.frozen_of_heap HC9.out 1
                have d2 : w7.cell? ⟨w4.heap.size, 2, none⟩ = some (.string sg) := Lib.cell_of_heap HC9.out 2
                have g2 : w7.frozen? ⟨w4.heap.size, 2, none⟩ = false := Lib.frozen_of_heap HC9.out 2
                have d3 : w7.cell? ⟨w4.heap.size, 3, none⟩ = some (.int .i64 0) := Lib.cell_of_heap HC9.out 3
                have g3 : w7.frozen? ⟨w4.heap.size, 3, none⟩ = false := Lib.frozen_of_heap HC9.out 3
                have d4 : w7.cell? ⟨w4.heap.size, 4, none⟩ = some (.int .u64 0) := Lib.cell_of_heap HC9.out 4
                have g4 : w7.frozen? ⟨w4.heap.size, 4, none⟩ = false := Lib.frozen_of_heap HC9.out 4
                have d5 : w7.cell? ⟨w4.heap.size, 5, none⟩ = some (.string ⟨#[]⟩) := Lib.cell_of_heap HC9.out 5
                have g5 : w7.frozen? ⟨w4.heap.size, 5, none⟩ = false := Lib.frozen_of_heap HC9.out 5
                have d6 : w7.cell? ⟨w4.heap.size, 6, none⟩ = some (.slice none 0 0) := Lib.cell_of_heap HC9.out 6
                have g6 : w7.frozen? ⟨w4.heap.size, 6, none⟩ = false := Lib.frozen_of_heap HC9.out 6
                have q0 : w7.cell? ⟨w.heap.size, 0, none⟩ = some (.int .i64 0) := Lib.cell_of_heap HR9.out 0
                have f0 : w7.frozen? ⟨w.heap.size, 0, none⟩ = false := Lib.frozen_of_heap HR9.out 0
                have q1 : w7.cell? ⟨w.heap.size, 1, none⟩ = some (.string ⟨#[]⟩) := Lib.cell_of_heap HR9.out 1
                have f1 : w7.frozen? ⟨w.heap.size, 1, none⟩ = false := Lib.frozen_of_heap HR9.out 1
                have q2 : w7.cell? ⟨w.heap.size, 2, none⟩ = some (.string ⟨#[]⟩) := Lib.cell_of_heap HR9.out 2
                have f2 : w7.frozen? ⟨w.heap.size, 2, none⟩ = false := Lib.frozen_of_heap HR9.out 2
                have q3 : w7.cell? ⟨w.heap.size, 3, none⟩ = some (.int .i64 0) := Lib.cell_of_heap HR9.out 3
                have f3 : w7.frozen? ⟨w.heap.size, 3, none⟩ = false := Lib.frozen_of_heap HR9.out 3
                have q4 : w7.cell? ⟨w.heap.size, 4, none⟩ = some (.int .u64 0) := Lib.cell_of_heap HR9.out 4
                have f4 : w7.frozen? ⟨w.heap.size, 4, none⟩ = false := Lib.frozen_of_heap HR9.out 4
                have q5 : w7.cell? ⟨w.heap.size, 5, none⟩ = some (.string ⟨#[]⟩) := Lib.cell_of_heap HR9.out 5
                have f5 : w7.frozen? ⟨w.heap.size, 5, none⟩ = false := Lib.frozen_of_heap HR9.out 5
                have q6 : w7.cell? ⟨w.heap.size, 6, none⟩ = some (.slice none 0 0) := Lib.cell_of_heap HR9.out 6
                have f6 : w7.frozen? ⟨w.heap.size, 6, none⟩ = false := Lib.frozen_of_heap HR9.out 6
                have hne : w4.heap.size ≠ w.heap.size := by have := HS4.out; omega
                go_wp2_with fail
                refine bodyPost_ret (results_cell_row rfl _ _ w.heap.size 51 _ (0, 0) _ rfl (put7_heap ((put3c_far (by have := HS4.out; omega) _ _ _).trans HR9.out) _ _ _ _ _ _ _) Tryz.underlying51 (by kernel_rfl) info51s) rfl ?_
                rw [← HPP.out]
                exact leaf_out (HF2.out) HK9.out HQ9.out HPB.out (Nat.le_refl _) (Nat.le_of_lt HS4.out)
      · rw [e1] at hm3
        subst e0
        have htk : t0 = (kd, tx, at_) := HT.out
        subst htk
        have HE := Lib.hid (HEQ.out.trans (by rw [hop, e2]; rfl : _ = timeP r))
        clear e1 e2 hop
        obtain ⟨rfl, hp3⟩ := hm3
        have HQ3 := Lib.hid hp3
        have HMS := Lib.hid (sign_164 P n o r _ HQ3.out)
        clear hp3
        go_wp2_with fail
        refine HMS.out.mono ?_
        clear HMS
        rintro e w4 ⟨hk4, hm4⟩
        have HR4 := Lib.hid ((hk4.block w.heap.size HS3.out (by show ¬ w.heap.size = P; have := HPB.out; omega)).trans HR3.out)
        have HK4 := Lib.hid (HK3.out.then hk4)
        have HS4 := Lib.hid (lt_of_block HR4.out)
        clear hk4
        cases hsg : signP r with
        | error q =>
          rw [hsg] at hm4
          obtain rfl := hm4
          unfold stuckE
          simp (config := { zetaDelta := true }) only
          refine ⟨rfl, ?_⟩
          rw [← HPP.out, HE.out, timeP_err hsg]
          exact ⟨HK4.out, rfl⟩
        | ok sr =>
          obtain ⟨sg, r2⟩ := sr
          rw [hsg] at hm4
          obtain ⟨rfl, hp4⟩ := hm4
          have HSG := Lib.hid hsg
          have HQ5 := Lib.hid (hp4.later ((Below.refl _ _).alloc (Nat.le_refl _) (.cells #[.int .i64 4, .string ⟨#[]⟩, .string sg, .int .i64 0, .int .u64 0, .string ⟨#[]⟩, .slice none 0 0] 51 (0, 0))))
          have HC5 := Lib.hid (newest w4 (.cells #[.int .i64 4, .string ⟨#[]⟩, .string sg, .int .i64 0, .int .u64 0, .string ⟨#[]⟩, .slice none 0 0] 51 (0, 0)))
          have HK5 := Lib.hid (HK4.out.alloc (.cells #[.int .i64 4, .string ⟨#[]⟩, .string sg, .int .i64 0, .int .u64 0, .string ⟨#[]⟩, .slice none 0 0] 51 (0, 0)))
          have HR5 := Lib.hid ((Below.heap_alloc w4 (.cells #[.int .i64 4, .string ⟨#[]⟩, .string sg, .int .i64 0, .int .u64 0, .string ⟨#[]⟩, .slice none 0 0] 51 (0, 0)) _ HS4.out).trans HR4.out)
          have HMI := Lib.hid (integer_80 (-9223372036854775808) 9223372036854775807 P n o r2 W _ HR.out (HW.out.trans (HK5.out.below HW.out.size (fun k e => by show W.heap.size ≤ k; rw [e]; exact HWP.out))) HQ5.out)
          clear hp4 hsg
          go_wp2_with fail
          refine HMI.out.mono ?_
          clear HMI
          rintro e w5 ⟨hk5, hm5⟩
          have HR6 := Lib.hid ((hk5.block w.heap.size (lt_of_block HR5.out) (by show ¬ w.heap.size = P; have := HPB.out; omega)).trans HR5.out)
          have HC6 := Lib.hid ((hk5.block w4.heap.size (lt_of_block HC5.out) (by show ¬ w4.heap.size = P; have := HPB.out; have := HS4.out; omega)).trans HC5.out)
          have HK6 := Lib.hid (HK5.out.then hk5)
          clear hk5
          cases hin : intP (-9223372036854775808) 9223372036854775807 r2 with
          | error q =>
            rw [hin] at hm5
            obtain rfl := hm5
            unfold stuckE
            simp (config := { zetaDelta := true }) only
            refine ⟨rfl, ?_⟩
            rw [← HPP.out, HE.out, timeP_err2 HSG.out hin]
            exact ⟨HK6.out, rfl⟩
          | ok ir =>
            obtain ⟨m, r3⟩ := ir
            rw [hin] at hm5
            obtain ⟨rfl, hp5⟩ := hm5
            have HQ6 := Lib.hid hp5
            have HF := Lib.hid (HE.out.trans (timeP_ok HSG.out hin))
            clear hin hp5
            have d0 : w5.cell? ⟨w4.heap.size, 0, none⟩ = some (.int .i64 4) := Lib.cell_of_heap HC6.out 0
            have g0 : w5.frozen? ⟨w4.heap.size, 0, none⟩ = false := Lib.frozen_of_heap HC6.out 0
            have d1 : w5.cell? ⟨w4.heap.size, 1, none⟩ = some (.string ⟨#[]⟩) := Lib.cell_of_heap HC6.out 1
            have g1 : w5.frozen? ⟨w4.heap.size, 1, none⟩ = false := Lib.frozen_of_heap HC6.out 1
            have d2 : w5.cell? ⟨w4.heap.size, 2, none⟩ = some (.string sg) := Lib.cell_of_heap HC6.out 2
            have g2 : w5.frozen? ⟨w4.heap.size, 2, none⟩ = false := Lib.frozen_of_heap HC6.out 2
            have d3 : w5.cell? ⟨w4.heap.size, 3, none⟩ = some (.int .i64 0) := Lib.cell_of_heap HC6.out 3
            have g3 : w5.frozen? ⟨w4.heap.size, 3, none⟩ = false := Lib.frozen_of_heap HC6.out 3
            have d4 : w5.cell? ⟨w4.heap.size, 4, none⟩ = some (.int .u64 0) := Lib.cell_of_heap HC6.out 4
            have g4 : w5.frozen? ⟨w4.heap.size, 4, none⟩ = false := Lib.frozen_of_heap HC6.out 4
            have d5 : w5.cell? ⟨w4.heap.size, 5, none⟩ = some (.string ⟨#[]⟩) := Lib.cell_of_heap HC6.out 5
            have g5 : w5.frozen? ⟨w4.heap.size, 5, none⟩ = false := Lib.frozen_of_heap HC6.out 5
            have d6 : w5.cell? ⟨w4.heap.size, 6, none⟩ = some (.slice none 0 0) := Lib.cell_of_heap HC6.out 6
            have g6 : w5.frozen? ⟨w4.heap.size, 6, none⟩ = false := Lib.frozen_of_heap HC6.out 6
            have q0 : w5.cell? ⟨w.heap.size, 0, none⟩ = some (.int .i64 0) := Lib.cell_of_heap HR6.out 0
            have f0 : w5.frozen? ⟨w.heap.size, 0, none⟩ = false := Lib.frozen_of_heap HR6.out 0
            have q1 : w5.cell? ⟨w.heap.size, 1, none⟩ = some (.string ⟨#[]⟩) := Lib.cell_of_heap HR6.out 1
            have f1 : w5.frozen? ⟨w.heap.size, 1, none⟩ = false := Lib.frozen_of_heap HR6.out 1
            have q2 : w5.cell? ⟨w.heap.size, 2, none⟩ = some (.string ⟨#[]⟩) := Lib.cell_of_heap HR6.out 2
            have f2 : w5.frozen? ⟨w.heap.size, 2, none⟩ = false := Lib.frozen_of_heap HR6.out 2
            have q3 : w5.cell? ⟨w.heap.size, 3, none⟩ = some (.int .i64 0) := Lib.cell_of_heap HR6.out 3
            have f3 : w5.frozen? ⟨w.heap.size, 3, none⟩ = false := Lib.frozen_of_heap HR6.out 3
            have q4 : w5.cell? ⟨w.heap.size, 4, none⟩ = some (.int .u64 0) := Lib.cell_of_heap HR6.out 4
            have f4 : w5.frozen? ⟨w.heap.size, 4, none⟩ = false := Lib.frozen_of_heap HR6.out 4
            have q5 : w5.cell? ⟨w.heap.size, 5, none⟩ = some (.string ⟨#[]⟩) := Lib.cell_of_heap HR6.out 5
            have f5 : w5.frozen? ⟨w.heap.size, 5, none⟩ = false := Lib.frozen_of_heap HR6.out 5
            have q6 : w5.cell? ⟨w.heap.size, 6, none⟩ = some (.slice none 0 0) := Lib.cell_of_heap HR6.out 6
            have f6 : w5.frozen? ⟨w.heap.size, 6, none⟩ = false := Lib.frozen_of_heap HR6.out 6
            have hne : w4.heap.size ≠ w.heap.size := by have := HS4.out; omega
            go_wp2_with fail
            refine bodyPost_ret (results_cell_row rfl _ _ w.heap.size 51 _ (0, 0) _ rfl (put7_heap ((put3c_far (by have := HS4.out; omega) _ _ _).trans HR6.out) _ _ _ _ _ _ _) Tryz.underlying51 (by kernel_rfl) info51s) rfl ?_
            rw [← HPP.out]
            exact leaf_out (HF.out) HK6.out HQ6.out HPB.out (Nat.le_refl _) (Nat.le_of_lt HS4.out)
end Go.Proofs.YtigicmnngppipaaGreatDoor.Tp
