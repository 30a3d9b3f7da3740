/- Several texts of this proof, laid together. Conditions: as each says. -/
import Derived.Test.YtagiddbfhlokcaaGreatDoorTAY
import Derived.Test.YtagiddbfhlokcaaGreatDoorTAX
import Derived.Lib.QuietBelow
/- The reference's text of a float. Conditions: the tables of powers. -/
namespace Go.Proofs.YtagiddbfhlokcaaGreatDoor.Ff
open Go.RowKit Go.Sort
set_option maxRecDepth 100000
theorem bs_app (a b : List UInt8) : bs a ++ bs b = bs (a ++ b) := by
  apply ByteArray.ext
  apply Array.toList_inj.1
  simp [bs]
theorem nou_148 (n : Nat) (hn : n ≤ 1000) (w : World) : Calls Tryz.prog 148 #[.int .i64 (n : Int)] w fun e w' => e = .returned (.string (bs (List.replicate n 48))) ∧ w = w' := by
  go_enter Tryz.func148, Tryz.ntmps148
  go_wp2
  go_loopw [3, 5] (fun s v wr => ∃ k : Nat, k ≤ n ∧ s = .string (bs (List.replicate k 48)) ∧ v = .int .i64 (k : Int) ∧ w = wr) (fun _ v _ => n - (intOf v).toNat)
  case atStart => exact ⟨0, Nat.zero_le _, rfl, rfl, rfl⟩
  case round =>
    obtain ⟨k, hk, rfl, rfl, rfl⟩ := hrel
    by_cases h : k = n
    · subst h
      go_wp2
      go_ret
      exact ⟨rfl, rfl⟩
    · have hk2 : k < n := by omega
      have hsz : (bs (List.replicate k 48)).size = k := by rw [bs_size, List.length_replicate]
      have hj : bs (List.replicate k 48) ++ ⟨#[48]⟩ = bs (List.replicate (k + 1) 48) := by
        rw [List.replicate_succ', ← bs_app]; rfl
      go_wp2
      go_roundw
      case rel => exact ⟨k + 1, by omega, rfl, by go_num, trivial⟩
      case measure => simp [intOf]; omega
theorem sl_bs (l : List UInt8) (i j : Nat) : (bs l).extract i j = bs ((l.take j).drop i) := by
  apply ByteArray.ext
  apply Array.toList_inj.1
  rw [Lib.extract_data, bs_list, bs_list, List.drop_take]
theorem gM_drop {g0 : UInt8} {gt : List UInt8} (h : 2 ≤ (g0 :: gt).length) (r : List UInt8) : ((PF.gM (g0 :: gt) ++ r).take (PF.gM (g0 :: gt)).length).drop 2 = gt := by
  rw [List.take_left]
  unfold PF.gM
  rw [if_pos h]
  rfl
theorem num_bne {c : UInt8} (h : PF.isNum c = true) : ((c.toNat : Int) != 101) = true := by
  rw [bne_iff_ne]
  intro e
  have : c = 101 := UInt8.toNat_inj.1 (by show c.toNat = 101; omega)
  subst this
  exact absurd h (by decide)
theorem form_eb (T : Nat → Nat × Nat) (hT : TabLt T) (hP : PF.TabPow (tabF T)) (x : Nat) (hx : x < 18446744073709551616) (hfin : PF.Fin x) (w0 : World) (henv : FEnv T w0) (h8 : 15 < w0.heap.size) :
    Calls Tryz.prog 101 #[.float .f64 x, .int .u8 101, .int .i64 (-1), .int .i64 64] w0 fun e w' => e = .returned (.string (bs (txE T x))) ∧ Below w0.heap.size w0 w' := form_e T hT hP x hx hfin w0 henv h8
theorem join6 (a : List UInt8) (g0 : UInt8) (gt b : List UInt8) : bs a ++ bs [g0] ++ ⟨#[46]⟩ ++ bs gt ++ ⟨#[101]⟩ ++ bs b = bs (a ++ (g0 :: 46 :: gt ++ 101 :: b)) := by
  apply ByteArray.ext
  apply Array.toList_inj.1
  simp [bs]
theorem join4 (a : List UInt8) (g b : List UInt8) : bs a ++ bs g ++ ⟨#[101]⟩ ++ bs b = bs (a ++ (g ++ 101 :: b)) := by
  apply ByteArray.ext
  apply Array.toList_inj.1
  simp [bs]
theorem join5 (a b c : List UInt8) : bs a ++ ⟨#[48, 46]⟩ ++ bs b ++ bs c = bs (a ++ (48 :: 46 :: (b ++ c))) := by
  apply ByteArray.ext
  apply Array.toList_inj.1
  simp [bs]
theorem join2 (a b c : List UInt8) : bs a ++ bs b ++ bs c = bs (a ++ (b ++ c)) := by
  apply ByteArray.ext
  apply Array.toList_inj.1
  simp [bs]
theorem join7 (a b c : List UInt8) : bs a ++ bs b ++ ⟨#[46]⟩ ++ bs c = bs (a ++ (b ++ 46 :: c)) := by
  apply ByteArray.ext
  apply Array.toList_inj.1
  simp [bs]
set_option maxHeartbeats 4000000 in
theorem ref_98 (T : Nat → Nat × Nat) (hT : TabLt T) (hP : PF.TabPow (tabF T)) (x : Nat) (hx : x < 18446744073709551616) (hfin : PF.Fin x) (w0 : World) (henv : FEnv T w0) (h8 : 15 < w0.heap.size) :
    Calls Tryz.prog 98 #[.float .f64 x] w0 fun e w' => e = .returned (.string (bs (PF.flText (tabF T) x))) ∧ Below w0.heap.size w0 w' := by
  have ME := Lib.hid (fun w h h8 => form_eb T hT hP x hx hfin w h h8)
  obtain ⟨d1, d2, d3, d4, d5, d6⟩ := PF.fDec_any hP (r := x % 9223372036854775808) hfin
  unfold PF.flText
  unfold txE at ME
  obtain ⟨D, hD⟩ : ∃ D, (PF.fDec (tabF T) (x % 9223372036854775808)).1 = D := ⟨_, rfl⟩
  obtain ⟨dp, hdp⟩ : ∃ D, (PF.fDec (tabF T) (x % 9223372036854775808)).2 = D := ⟨_, rfl⟩
  obtain ⟨neg, hneg⟩ : ∃ b, decide (9223372036854775808 ≤ x) = b := ⟨_, rfl⟩
  rw [hD] at d1 d2 d5 ME ⊢
  rw [hdp] at d3 d4 d5 ME ⊢
  rw [hneg] at ME ⊢
  rw [PF.flTx_g neg d5]
  unfold PF.fmtE at ME
  rw [PF.fmtM_g] at ME
  obtain ⟨X, hX⟩ : ∃ X, PF.fX D dp = X := ⟨_, rfl⟩
  have hX1 : -999 ≤ X ∧ X ≤ 999 := by rw [← hX]; unfold PF.fX; split <;> omega
  rw [hX] at ME ⊢
  have hG : ∃ g0 gt, PF.gD D = g0 :: gt ∧ PF.isDig g0 = true ∧ gt.all PF.isDig = true ∧ gt.length ≤ 16 := by
    unfold PF.gD
    cases D with
    | nil => exact ⟨48, [], by rw [if_pos rfl], by decide, rfl, by decide⟩
    | cons c r =>
      simp only [List.all_cons, Bool.and_eq_true] at d1
      exact ⟨c, r, by rw [if_neg (by simp)], d1.1, d1.2, by rw [List.length_cons] at d2; omega⟩
  obtain ⟨g0, gt, hGD, hg0, hgt, hgl⟩ := hG
  rw [hGD] at ME ⊢
  obtain ⟨M, hM⟩ : ∃ M, PF.gM (g0 :: gt) = M := ⟨_, rfl⟩
  have hnum : M.all PF.isNum = true := by
    have := PF.fmtM_num neg d1
    rw [PF.fmtM_g, hGD, hM, List.all_append, Bool.and_eq_true] at this
    exact this.2
  have hxl := PF.exp_len X.natAbs
  have hl2 := PF.itoa_len hX1.1 hX1.2
  have MA := Lib.hid (fun w => atoi_102 hX1.1 hX1.2 w)
  have MI := Lib.hid (fun w h => itoa_103 hX1.1 hX1.2 w h)
  obtain ⟨E, hE⟩ : ∃ E, ((if X < 0 then 45 else 43) :: PF.expT X.natAbs : List UInt8) = E := ⟨_, rfl⟩
  have hEl : E.length ≤ 4 := by rw [← hE, List.length_cons]; omega
  rw [hE] at ME MA
  obtain ⟨C, hC⟩ : ∃ C, M ++ 101 :: E = C := ⟨_, rfl⟩
  have hME : PF.sgT neg ++ M ++ 101 :: E = PF.sgT neg ++ C := by rw [← hC, List.append_assoc]
  rw [hM, hME] at ME
  obtain ⟨m, hm⟩ : ∃ m, M.length = m := ⟨_, rfl⟩
  have hm1 : 1 ≤ m ∧ m ≤ 18 := by
    rw [← hm, ← hM]; unfold PF.gM
    rw [List.length_cons]
    split
    · rw [List.length_cons, List.tail_cons]; omega
    · rw [List.length_nil]; omega
  have hCl : C.length = m + (E.length + 1) := by rw [← hC, List.length_append, List.length_cons, hm]
  have HM := Lib.hid hM
  have HC := Lib.hid hC
  have HNUM := Lib.hid hnum
  have HML := Lib.hid hm
  have HCL := Lib.hid hCl
  obtain ⟨SG, hSG⟩ : ∃ S, PF.sgT neg = S := ⟨_, rfl⟩
  have HSG := Lib.hid hSG
  have hsgl : SG.length ≤ 1 := by rw [← hSG]; cases neg <;> decide
  obtain ⟨R, hR⟩ : ∃ R, PF.gTx neg (g0 :: gt) X = R := ⟨_, rfl⟩
  have HR := Lib.hid hR
  unfold PF.gTx at HR
  rw [hM, hSG] at HR
  rw [hR]
  rw [hSG] at ME
  have HE := Lib.hid henv
  have H8 := Lib.hid h8
  have hG0 : ((g0.toNat : Int) == 45) = false := by
    rw [beq_eq_false_iff_ne]
    have := isDig_true hg0
    omega
  have HX1 := Lib.hid hX1
  clear d1 d2 d3 d4 d5 d6 hD hdp hneg hX hM hnum hxl hE hC hm hME hCl hSG hR hT hP hfin henv h8 hGD hX1 hgt
  go_enter Tryz.func98, Tryz.ntmps98
  go_wp2_with fail
  refine (ME.out _ HE.out H8.out).mono ?_
  rintro e w1 ⟨rfl, hb1⟩
  have HB1 := Lib.hid hb1
  clear hb1
  obtain ⟨c0, hc0, hcd⟩ : ∃ c0, (SG ++ C).drop 0 = c0 :: (SG ++ C).tail ∧ ((neg = true ∧ c0 = 45) ∨ (neg = false ∧ c0 = g0)) := by
    have h1 := HSG.out
    have h2 := HC.out
    have h3 := HM.out
    unfold PF.gM at h3
    cases neg with
    | true => exact ⟨45, by rw [← h1]; rfl, .inl ⟨rfl, rfl⟩⟩
    | false => exact ⟨g0, by rw [← h1, ← h2, ← h3]; rfl, .inr ⟨rfl, rfl⟩⟩
  obtain ⟨hlt, hg, hz, _, _⟩ := at_cons hc0
  have ht1 : neg = true → (bs (SG ++ C)).extract 1 (bs (SG ++ C)).size = bs C := by
    intro h
    have h1 := HSG.out
    rw [h] at h1
    rw [← h1]
    exact bs_tail 45 C
  have HT1 := Lib.hid ht1
  have HSN : Hid (neg = true → SG = [45]) := Lib.hid (fun h => by have h1 := HSG.out; rw [h] at h1; exact h1.symm)
  have HSF : Hid (neg = false → SG = []) := Lib.hid (fun h => by have h1 := HSG.out; rw [h] at h1; exact h1.symm)
  clear ht1 hc0
  have hz0 : (0 : Int) < ((bs (SG ++ C)).size : Int) := hz
  have hlt0 : 0 < (bs (SG ++ C)).size := hlt
  have hg0' : (bs (SG ++ C))[0] = c0 := hg
  have hq1 : (1 : Int) ≤ ((bs (SG ++ C)).size : Int) := by omega
  have hq2 : 1 ≤ (bs (SG ++ C)).size := by omega
  clear hz hlt hg
  go_upto_if 14 with (fail)
  go_cut [3, 4] from 14 (fun t s wx => t = .string (bs C) ∧ s = .string (bs SG) ∧ ∃ n, wx = w1.drewN n)
  case first =>
    rcases hcd with ⟨hn, rfl⟩ | ⟨hn, rfl⟩
    · have HN := Lib.hid hn
      have e1 := HT1.out hn
      clear hG0 hn
      go_wp2_with fail
      go_quiet (fail)
      go_wp2_with fail
      go_meet
      have e2 := HSN.out HN.out
      exact ⟨rfl, by rw [e2]; rfl, _, rfl⟩
    · have HN := Lib.hid hn
      clear hn
      go_wp2_with fail
      go_meet
      have e2 := HSF.out HN.out
      exact ⟨by rw [e2]; rfl, by rw [e2]; rfl, 0, rfl⟩
  case rest =>
    obtain ⟨rfl, rfl, n, rfl⟩ := hcut
    have HB2 := Lib.hid (below_drewN HB1.out n)
    have HE2 := Lib.hid (HE.out.later HB2.out H8.out)
    have H82 := Lib.hid (Nat.lt_of_lt_of_le H8.out HB2.out.size)
    have hW : ∃ W, w1.drewN n = W := ⟨_, rfl⟩
    obtain ⟨W, hW⟩ := hW
    rw [hW] at HB2 HE2 H82 ⊢
    clear hW hcd hz0 hlt0 hg0' hq1 hq2 HT1 HSN HSF
    have HSZ : Hid ((bs C).size = m + (E.length + 1)) := Lib.hid (by rw [bs_size]; exact HCL.out)
    go_wp2_with fail
    go_loopw [5] (fun v wr => (∃ k : Nat, k ≤ m ∧ v = .int .i64 (k : Int)) ∧ wr = W) (fun v _ => m - (intOf v).toNat)
    case atStart => exact ⟨⟨0, Nat.zero_le _, rfl⟩, rfl⟩
    case round =>
      obtain ⟨⟨k, hk, rfl⟩, hw⟩ := hrel
      obtain rfl := hw.symm
      by_cases hkm : k = m
      · subst hkm
        have e : C.drop k = 101 :: E := by
          rw [← HC.out, List.drop_append, HML.out, Nat.sub_self, List.drop_of_length_le (by rw [HML.out]; exact Nat.le_refl _)]
          rfl
        obtain ⟨hlt, hg, hz, _, _⟩ := at_cons e
        have q1 : (1 : Int) ≤ ((bs C).size : Int) := by omega
        have q2 : 1 ≤ (bs C).size := by omega
        have tk : (bs C).extract 0 1 = bs [g0] := by
          rw [Ser.take_bs, ← HC.out, ← HM.out]
          rfl
        clear e
        go_upto_if 26 with (fail)
        go_cut [6] from 25 (fun s wx => s = .string (bs (g0 :: gt)) ∧ W = wx)
        case first =>
          by_cases hg2 : 2 ≤ (g0 :: gt).length
          · have hk2 : k = gt.length + 2 := by
              rw [← HML.out, ← HM.out]; unfold PF.gM
              rw [if_pos hg2, List.length_cons, List.length_cons, List.tail_cons]
            have hk1 : (1 : Int) < (k : Int) := by omega
            have q3 : (2 : Int) ≤ (k : Int) := by omega
            have q4 : (k : Int) ≤ ((bs C).size : Int) := by omega
            have sl : (bs C).extract 2 k = bs gt := by
              have := gM_drop hg2 (101 :: E)
              rw [HM.out, HC.out, HML.out] at this
              rw [sl_bs, this]
            have jn : bs [g0] ++ bs gt = bs (g0 :: gt) := by rw [bs_app]; rfl
            have z1 : (bs [g0]).size = 1 := rfl
            have z2 : (bs gt).size ≤ 16 := by rw [bs_size]; exact hgl
            clear hk2
            go_wp2_with fail
            go_meet
            exact ⟨rfl, rfl⟩
          · have hgt0 : gt = [] := by
              rw [List.length_cons] at hg2
              exact List.length_eq_zero_iff.1 (by omega)
            have hk1 : k = 1 := by
              rw [← HML.out, ← HM.out]; unfold PF.gM
              rw [if_neg hg2]; rfl
            have hk1' : ¬ (1 : Int) < (k : Int) := by omega
            clear hk1
            go_wp2_with fail
            go_meet
            rw [hgt0]
            exact ⟨rfl, rfl⟩
        case rest =>
          obtain ⟨rfl, rfl⟩ := hcut
          have q5 : (k : Int) + 1 ≤ ((bs C).size : Int) := by omega
          have dr : (bs C).extract (k + 1) (bs C).size = bs E := by
            rw [Ser.drop_bs, ← HC.out, ← HML.out, List.drop_append, List.drop_of_length_le (Nat.le_succ _)]
            simp
          obtain ⟨GN, hGN⟩ : ∃ N, (bs (g0 :: gt)).size = N := ⟨_, rfl⟩
          have hGL : GN = gt.length + 1 := by rw [← hGN, bs_size, List.length_cons]
          have HGL := Lib.hid hGL
          have hGN17 : GN ≤ 17 := by omega
          clear hGL
          clear tk hlt hg hz q1 q2
          go_wp2_with fail
          refine (MA.out _).mono ?_
          rintro e w3 ⟨rfl, hb3⟩
          have HB3 := Lib.hid (HB2.out.trans (hb3.mono HB2.out.size))
          have HE3 := Lib.hid (HE.out.later HB3.out H8.out)
          clear hb3 dr q5
          have sS : (bs SG).size ≤ 1 := by rw [bs_size]; exact hsgl
          have sI : (bs (Lib.itoa X)).size ≤ 4 := by rw [bs_size]; omega
          have sT : (bs gt).size ≤ 16 := by rw [bs_size]; exact hgl
          have s1 : (bs [g0]).size = 1 := rfl
          by_cases hA : X < -4 ∨ 15 < X
          · have h1 := HR.out
            rw [if_pos hA] at h1
            have HRR := Lib.hid h1
            have hA2 : X < -4 ∨ ¬ X < -4 ∧ 15 < X := by omega
            clear h1 hA
            by_cases hg2 : 1 < GN
            · have HMG : Hid (M = g0 :: 46 :: gt) := Lib.hid (by rw [← HM.out]; unfold PF.gM; have := HGL.out; rw [if_pos (by rw [List.length_cons]; omega)]; rfl)
              have hg2' : (1 : Int) < (GN : Int) := by omega
              have e1 : (bs (g0 :: gt)).extract 0 1 = bs [g0] := by rw [Ser.take_bs]; rfl
              have e2 : (bs (g0 :: gt)).extract 1 GN = bs gt := by rw [← hGN]; exact bs_tail g0 gt
              have q6 : (1 : Int) ≤ ((bs (g0 :: gt)).size : Int) := by omega
              have cK := fun d os => Calls.regrown_of (itoa_103 HX1.out.1 HX1.out.2 (grow (redrawn w3 d) os) (HE3.out.later (below_regrown w3 d os) (Nat.lt_of_lt_of_le H8.out HB3.out.size)).tab)
              rcases hA2 with hA | ⟨hA, hA3⟩
              all_goals
                go_wp2_with fail
                refine wp_region_quiet_below (by kernel_rfl) (by kernel_rfl) ?_
                repeat (go_big_quiet_step ((with_reducible exact cK _ _)))
                refine wpQuiet_nil ?_
                intro w4 hw4
                have hb4 := Ser.below_of_regrown hw4
                have HB4 := Lib.hid (HB3.out.trans (hb4.mono HB3.out.size))
                clear hw4 hb4
                go_wp2
                go_ret
                rw [← HRR.out, HMG.out]
                exact ⟨congrArg (fun z => Ending.returned (Value.string z)) (join6 SG g0 gt (Lib.itoa X)), HB4.out⟩
            · have hgt0 : gt = [] := List.length_eq_zero_iff.1 (by have := HGL.out; omega)
              have HMG : Hid (M = g0 :: gt) := Lib.hid (by rw [← HM.out]; unfold PF.gM; have := HGL.out; rw [if_neg (by rw [List.length_cons]; omega), hgt0]; rfl)
              have hg2' : ¬ (1 : Int) < (GN : Int) := by omega
              have sG : (bs (g0 :: gt)).size ≤ 17 := by omega
              clear hgt0
              rcases hA2 with hA | ⟨hA, hA3⟩
              all_goals
                go_wp2_with fail
                refine (MI.out _ HE3.out.tab).mono ?_
                rintro e w4 ⟨rfl, hb4⟩
                have HB4 := Lib.hid (HB3.out.trans (hb4.mono HB3.out.size))
                clear hb4
                go_wp2_with fail
                go_ret
                rw [← HRR.out, HMG.out]
                exact ⟨congrArg (fun z => Ending.returned (Value.string z)) (join4 SG (g0 :: gt) (Lib.itoa X)), HB4.out⟩
          · have h1 := HR.out
            rw [if_neg hA] at h1
            have hA1 : ¬ X < -4 := fun h => hA (.inl h)
            have hA2 : ¬ 15 < X := fun h => hA (.inr h)
            have sG : (bs (g0 :: gt)).size ≤ 17 := by omega
            clear hA
            by_cases hX0 : X < 0
            · rw [if_pos hX0] at h1
              have HRR := Lib.hid h1
              obtain ⟨z, hz⟩ : ∃ z : Nat, (-X - 1).toNat = z := ⟨_, rfl⟩
              have hz2 : -X - 1 = (z : Int) := by omega
              have HZ := Lib.hid hz
              have M148 := Lib.hid (fun w => nou_148 z (by omega) w)
              have sZ : (bs (List.replicate z 48)).size ≤ 1000 := by rw [bs_size, List.length_replicate]; omega
              clear h1 hz
              go_wp2_with fail
              refine (M148.out _).mono ?_
              rintro e w4 ⟨rfl, rfl⟩
              go_wp2_with fail
              go_ret
              rw [← HRR.out, HZ.out]
              exact ⟨congrArg (fun z => Ending.returned (Value.string z)) (join5 SG (List.replicate z 48) (g0 :: gt)), HB3.out⟩
            · rw [if_neg hX0] at h1
              obtain ⟨q, rfl⟩ : ∃ q : Nat, X = q := ⟨X.toNat, by omega⟩
              by_cases hl : ((g0 :: gt).length : Int) ≤ (q : Int) + 1
              · rw [if_pos hl] at h1
                have HRR := Lib.hid h1
                have hl2' : (GN : Int) ≤ (q : Int) + 1 := by have := HGL.out; rw [List.length_cons] at hl; omega
                obtain ⟨z, hz⟩ : ∃ z : Nat, ((q : Int) + 1 - ((g0 :: gt).length : Int)).toNat = z := ⟨_, rfl⟩
                have hz2 : (q : Int) + 1 - (GN : Int) = (z : Int) := by have := HGL.out; rw [List.length_cons] at hz; omega
                have HZ := Lib.hid hz
                have M148 := Lib.hid (fun w => nou_148 z (by omega) w)
                have sZ : (bs (List.replicate z 48)).size ≤ 1000 := by rw [bs_size, List.length_replicate]; omega
                clear h1 hz hl
                go_wp2_with fail
                refine (M148.out _).mono ?_
                rintro e w4 ⟨rfl, rfl⟩
                go_wp2_with fail
                go_ret
                rw [← HRR.out, HZ.out]
                exact ⟨congrArg (fun z => Ending.returned (Value.string z)) (join2 SG (g0 :: gt) (List.replicate z 48)), HB3.out⟩
              · rw [if_neg hl] at h1
                have HRR := Lib.hid h1
                have hl2' : ¬ (GN : Int) ≤ (q : Int) + 1 := by have := HGL.out; rw [List.length_cons] at hl; omega
                have e1 : (bs (g0 :: gt)).extract 0 (q + 1) = bs ((g0 :: gt).take (q + 1)) := Ser.take_bs _ _
                have e2 : (bs (g0 :: gt)).extract (q + 1) (bs (g0 :: gt)).size = bs ((g0 :: gt).drop (q + 1)) := Ser.drop_bs _ _
                rw [hGN] at e2
                have q6 : (q : Int) + 1 ≤ ((bs (g0 :: gt)).size : Int) := by omega
                have z1 : (bs ((g0 :: gt).take (q + 1))).size ≤ 17 := by rw [bs_size, List.length_take, List.length_cons]; omega
                have z2 : (bs ((g0 :: gt).drop (q + 1))).size ≤ 17 := by rw [bs_size, List.length_drop, List.length_cons]; omega
                have HQ : Hid (((q : Int) + 1).toNat = q + 1) := Lib.hid (by omega)
                obtain ⟨A, hA⟩ : ∃ A, (g0 :: gt).take (q + 1) = A := ⟨_, rfl⟩
                obtain ⟨B, hB⟩ : ∃ A, (g0 :: gt).drop (q + 1) = A := ⟨_, rfl⟩
                rw [hA] at e1 z1
                rw [hB] at e2 z2
                have HAB := Lib.hid (show (g0 :: gt).take (q + 1) = A ∧ (g0 :: gt).drop (q + 1) = B from ⟨hA, hB⟩)
                clear h1 hl hA hB
                go_wp2_with fail
                go_quiet (fail)
                go_wp2_with fail
                go_ret
                rw [← HRR.out, HQ.out, HAB.out.1, HAB.out.2]
                exact ⟨congrArg (fun z => Ending.returned (Value.string z)) (join7 SG A B), below_drewN HB3.out _⟩
      · have hk2 : k < m := by omega
        obtain ⟨c, t, e, hc⟩ : ∃ c t, C.drop k = c :: t ∧ PF.isNum c = true := by
          have hkl : k < M.length := by rw [HML.out]; exact hk2
          refine ⟨M[k], M.drop (k + 1) ++ 101 :: E, ?_, List.all_eq_true.1 HNUM.out _ (List.getElem_mem hkl)⟩
          rw [← HC.out, List.drop_append_of_le_length (by omega), List.drop_eq_getElem_cons hkl]
          rfl
        obtain ⟨hlt, hg, hz, _, _⟩ := at_cons e
        have hne := num_bne hc
        clear e hc
        go_wp2_with fail
        go_roundw
        case rel => exact ⟨⟨k + 1, by omega, by go_num⟩, trivial⟩
        case measure => simp [intOf]; omega
end Go.Proofs.YtagiddbfhlokcaaGreatDoor.Ff
/- A value's text, in plain Lean. No condition. -/
namespace PF
open Go
/-- A byte of a quoted text. -/
def q1 (c : UInt8) : List UInt8 := if c = 34 then [92, 34] else if c = 92 then [92, 92] else if c = 10 then [92, 110] else [c]
def quo (l : List UInt8) : List UInt8 := l.flatMap q1
def quoted (l : List UInt8) : List UInt8 := 34 :: (quo l ++ [34])
theorem quo_snoc {l : List UInt8} {k : Nat} (h : k < l.length) : quo (l.take (k + 1)) = quo (l.take k) ++ q1 (l.getD k 0) := by
  unfold quo
  rw [List.take_add_one, List.getElem?_eq_getElem h, List.flatMap_append, List.getD_eq_getElem?_getD, List.getElem?_eq_getElem h]
  simp
theorem q1_len (c : UInt8) : 1 ≤ (q1 c).length ∧ (q1 c).length ≤ 2 := by
  unfold q1
  split
  · simp
  · split
    · simp
    · split <;> simp
theorem quo_len (l : List UInt8) : (quo l).length ≤ 2 * l.length := by
  unfold quo
  induction l with
  | nil => simp
  | cons c r ih =>
    rw [List.flatMap_cons, List.length_append, List.length_cons]
    have := q1_len c
    omega
end PF
/- The reference's text of a string. Condition: its length. -/
namespace Go.Proofs.YtagiddbfhlokcaaGreatDoor.Ff
open Go.RowKit Go.Sort
set_option maxRecDepth 100000
theorem c_eq {c d : UInt8} (h : c = d) : ((c.toNat : Int) == (d.toNat : Int)) = true := by rw [h]; exact beq_self_eq_true _
theorem c_ne {c d : UInt8} (h : c ≠ d) : ((c.toNat : Int) == (d.toNat : Int)) = false := by
  rw [beq_eq_false_iff_ne]
  intro e
  exact h (UInt8.toNat_inj.1 (by omega))
set_option maxHeartbeats 4000000 in
theorem quoted_99 (l : List UInt8) (hl : l.length ≤ 70000) (w : World) : Calls Tryz.prog 99 #[.string (bs l)] w fun e w' => e = .returned (.string (bs (PF.quoted l))) ∧ Below w.heap.size w w' := by
  obtain ⟨i0, hi, hz0, hz1, hz2⟩ := info_parts One.info5
  have HI := Lib.hid hi
  have HZ0 := Lib.hid hz0
  have HZ1 := Lib.hid hz1
  have HZ2 := Lib.hid hz2
  have hlit := World.ownsRow_lit (base := w.heap.size) (e := 5) (size := 1) w #[.int .u8 34] 1 (Nat.le_refl _) (by decide) rfl
  have hB := (Below.refl w.heap.size w).alloc (Nat.le_refl _) (.cells #[.int .u8 34] 5)
  have HF1 := Lib.hid (show Fs w w.heap.size 0 [] [34] w.heap.size 1 (w.alloc (.cells #[.int .u8 34] 5)) from { own := hlit, ds := fun t ht => absurd ht (Nat.not_lt_zero t), gb := fun h => absurd h (Nat.lt_irrefl 0), bel := hB, le := hB.size, bw := fun h => absurd h (Nat.lt_irrefl 0), len := by decide })
  obtain ⟨B, hBB⟩ : ∃ B, w.heap.size = B := ⟨_, rfl⟩
  rw [hBB] at HF1 ⊢
  have hsz : (bs l).size = l.length := bs_size l
  have hszm : ((bs l).size : Int) = (l.length : Int) := by rw [hsz]
  clear hi hz0 hz1 hz2 hlit hB hsz
  go_enter Tryz.func99, Tryz.ntmps99
  go_wp2_with fail
  obtain ⟨W1, hW1⟩ : ∃ W1, w.alloc (.cells #[.int .u8 34] 5) = W1 := ⟨_, rfl⟩
  rw [hW1] at HF1 ⊢
  clear hW1
  go_loopw [3, 4] (fun v i wr => ∃ k : Nat, k ≤ l.length ∧ i = .int .i64 (k : Int) ∧ DstAt w B 0 [] (34 :: PF.quo (l.take k)) v wr) (fun _ i _ => ((l.length : Int) - intOf i).toNat)
  case atStart => exact ⟨0, Nat.zero_le _, rfl, B, 1, rfl, HF1.out⟩
  case round =>
    obtain ⟨k, hk, rfl, gx, cx, hv, hFx⟩ := hrel
    obtain ⟨Lx, hLx⟩ : ∃ L, 34 :: PF.quo (l.take k) = L := ⟨_, rfl⟩
    rw [hLx] at hv hFx
    subst hv
    have HFx := Lib.hid hFx
    have HLX : Hid (Lx.length ≤ 140001) := Lib.hid (by
      rw [← hLx, List.length_cons]
      have := PF.quo_len (l.take k)
      rw [List.length_take] at this
      omega)
    have HLE := Lib.hid hLx
    clear hFx hLx
    rcases list_cases (l.drop k) with e | ⟨c, t, e⟩
    · obtain ⟨n1, n2⟩ := at_nil hk e
      have hke : k = l.length := by rw [n2, bs_size]
      clear e n2
      go_wp2_with (at_builtin; go_must (refine wpList_append_own_at _ rfl (.tmp 35) (.tmp 36) 59 rfl B 5 i0 (.int .u8 0) 1 1 Tryz.underlying59 HI.out HZ0.out HZ1.out HZ2.out rfl (by decide) _ _ _ rfl (World.ownsRow.alloc HFx.out.own _) ⟨_, 0, none⟩ 1 1 (Lib.byteCells [34]) rfl rfl (World.news_of_block (cs := #[.int .u8 34]) (t := 5) (fr := (0, 0)) (heap_alloc_new _ _)) (by simp [Lib.byteCells, Value.oneCell']) (Nat.le_trans (Nat.add_le_add_right HFx.out.len _) (by decide)) (by have := HFx.out.len; omega) (Nat.le_trans HFx.out.le (by simp)) ?_); intro vz wz hown hgrow hnil hblk; obtain ⟨gz, cz, Lz, hLz, rfl, hF⟩ := HFx.out.app [34] (Nat.succ_pos _) (by have := HLX.out; simp only [List.length_cons, List.length_nil]; omega) hown hgrow hblk; have HFz := Lib.hid hF; have HLz := Lib.hid hLz; have hcv := One.str_of_own Lz HFz.out.own; clear hown hgrow hnil hblk hF hLz)
      go_ret
      have e : Lz = PF.quoted l := by
        rw [HLz.out, ← HLE.out, hke, List.take_length]
        rfl
      rw [← e]
      exact ⟨rfl, HFz.out.bel⟩
    · obtain ⟨hlt, hg, hz, _, hk1⟩ := at_cons e
      have HKL : Hid (k < l.length) := Lib.hid hk1
      have HX : Hid (l.getD k 0 = c) := Lib.hid (by
        have h1 : (l.drop k)[0]? = some c := by rw [e]; rfl
        rw [List.getElem?_drop, Nat.add_zero] at h1
        rw [List.getD_eq_getElem?_getD, h1]
        rfl)
      clear e
      by_cases h34 : c = 34
      · have HC := Lib.hid h34
        have b1 : ((c.toNat : Int) == 34) = true := c_eq h34
        clear h34
        go_wp2_with (at_builtin; go_must (refine wpList_append_own_at _ rfl (.tmp 24) (.tmp 28) 59 rfl B 5 i0 (.int .u8 0) 1 1 Tryz.underlying59 HI.out HZ0.out HZ1.out HZ2.out rfl (by decide) _ _ _ rfl (World.ownsRow.alloc HFx.out.own _) ⟨_, 0, none⟩ 2 2 (Lib.byteCells [92, c]) rfl rfl (World.news_of_block (cs := #[.int .u8 92, .int .u8 (c.toNat : Int)]) (t := 5) (fr := (0, 0)) (heap_alloc_new _ _)) (by simp [Lib.byteCells, Value.oneCell']) (Nat.le_trans (Nat.add_le_add_right HFx.out.len _) (by decide)) (by have := HFx.out.len; omega) (Nat.le_trans HFx.out.le (by simp)) ?_); intro vz wz hown hgrow hnil hblk; obtain ⟨gz, cz, Lz, hLz, rfl, hF⟩ := HFx.out.app [92, c] (Nat.succ_pos _) (by have := HLX.out; simp only [List.length_cons, List.length_nil]; omega) hown hgrow hblk; have HFz := Lib.hid hF; have HLz := Lib.hid hLz; clear hown hgrow hnil hblk hF hLz)
        go_roundw
        case rel =>
          have e : Lz = 34 :: PF.quo (l.take (k + 1)) := by
            rw [HLz.out, ← HLE.out, PF.quo_snoc HKL.out, HX.out]
            unfold PF.q1
            rw [if_pos HC.out, HC.out]
            rfl
          rw [e] at HFz ⊢
          exact ⟨k + 1, HKL.out, by go_num, gz, cz, rfl, HFz.out⟩
        case measure => have := HKL.out; simp [intOf]; omega
      · have b1 : ((c.toNat : Int) == 34) = false := c_ne h34
        by_cases h92 : c = 92
        · have HC := Lib.hid h92
          have HC1 := Lib.hid h34
          have b2 : ((c.toNat : Int) == 92) = true := c_eq h92
          clear h34 h92
          go_wp2_with (at_builtin; go_must (refine wpList_append_own_at _ rfl (.tmp 24) (.tmp 28) 59 rfl B 5 i0 (.int .u8 0) 1 1 Tryz.underlying59 HI.out HZ0.out HZ1.out HZ2.out rfl (by decide) _ _ _ rfl (World.ownsRow.alloc HFx.out.own _) ⟨_, 0, none⟩ 2 2 (Lib.byteCells [92, c]) rfl rfl (World.news_of_block (cs := #[.int .u8 92, .int .u8 (c.toNat : Int)]) (t := 5) (fr := (0, 0)) (heap_alloc_new _ _)) (by simp [Lib.byteCells, Value.oneCell']) (Nat.le_trans (Nat.add_le_add_right HFx.out.len _) (by decide)) (by have := HFx.out.len; omega) (Nat.le_trans HFx.out.le (by simp)) ?_); intro vz wz hown hgrow hnil hblk; obtain ⟨gz, cz, Lz, hLz, rfl, hF⟩ := HFx.out.app [92, c] (Nat.succ_pos _) (by have := HLX.out; simp only [List.length_cons, List.length_nil]; omega) hown hgrow hblk; have HFz := Lib.hid hF; have HLz := Lib.hid hLz; clear hown hgrow hnil hblk hF hLz)
          go_roundw
          case rel =>
            have e : Lz = 34 :: PF.quo (l.take (k + 1)) := by
              rw [HLz.out, ← HLE.out, PF.quo_snoc HKL.out, HX.out]
              unfold PF.q1
              rw [if_neg HC1.out, if_pos HC.out, HC.out]
              rfl
            rw [e] at HFz ⊢
            exact ⟨k + 1, HKL.out, by go_num, gz, cz, rfl, HFz.out⟩
          case measure => have := HKL.out; simp [intOf]; omega
        · have b2 : ((c.toNat : Int) == 92) = false := c_ne h92
          by_cases h10 : c = 10
          · have HC := Lib.hid h10
            have HC1 := Lib.hid h34
            have HC2 := Lib.hid h92
            have b3 : ((c.toNat : Int) == 10) = true := c_eq h10
            clear h34 h92 h10
            go_wp2_with (at_builtin; go_must (refine wpList_append_own_at _ rfl (.tmp 32) (.tmp 33) 59 rfl B 5 i0 (.int .u8 0) 1 1 Tryz.underlying59 HI.out HZ0.out HZ1.out HZ2.out rfl (by decide) _ _ _ rfl (World.ownsRow.alloc HFx.out.own _) ⟨_, 0, none⟩ 2 2 (Lib.byteCells [92, 110]) rfl rfl (World.news_of_block (cs := #[.int .u8 92, .int .u8 110]) (t := 5) (fr := (0, 0)) (heap_alloc_new _ _)) (by simp [Lib.byteCells, Value.oneCell']) (Nat.le_trans (Nat.add_le_add_right HFx.out.len _) (by decide)) (by have := HFx.out.len; omega) (Nat.le_trans HFx.out.le (by simp)) ?_); intro vz wz hown hgrow hnil hblk; obtain ⟨gz, cz, Lz, hLz, rfl, hF⟩ := HFx.out.app [92, 110] (Nat.succ_pos _) (by have := HLX.out; simp only [List.length_cons, List.length_nil]; omega) hown hgrow hblk; have HFz := Lib.hid hF; have HLz := Lib.hid hLz; clear hown hgrow hnil hblk hF hLz)
            go_roundw
            case rel =>
              have e : Lz = 34 :: PF.quo (l.take (k + 1)) := by
                rw [HLz.out, ← HLE.out, PF.quo_snoc HKL.out, HX.out]
                unfold PF.q1
                rw [if_neg HC1.out, if_neg HC2.out, if_pos HC.out]
                rfl
              rw [e] at HFz ⊢
              exact ⟨k + 1, HKL.out, by go_num, gz, cz, rfl, HFz.out⟩
            case measure => have := HKL.out; simp [intOf]; omega
          · have b3 : ((c.toNat : Int) == 10) = false := c_ne h10
            have HC1 := Lib.hid h34
            have HC2 := Lib.hid h92
            have HC3 := Lib.hid h10
            clear h34 h92 h10
            go_wp2_with (at_builtin; go_must (refine wpList_append_own_at _ rfl (.tmp 15) (.tmp 19) 59 rfl B 5 i0 (.int .u8 0) 1 1 Tryz.underlying59 HI.out HZ0.out HZ1.out HZ2.out rfl (by decide) _ _ _ rfl (World.ownsRow.alloc HFx.out.own _) ⟨_, 0, none⟩ 1 1 (Lib.byteCells [c]) rfl rfl (World.news_of_block (cs := #[.int .u8 (c.toNat : Int)]) (t := 5) (fr := (0, 0)) (heap_alloc_new _ _)) (by simp [Lib.byteCells, Value.oneCell']) (Nat.le_trans (Nat.add_le_add_right HFx.out.len _) (by decide)) (by have := HFx.out.len; omega) (Nat.le_trans HFx.out.le (by simp)) ?_); intro vz wz hown hgrow hnil hblk; obtain ⟨gz, cz, Lz, hLz, rfl, hF⟩ := HFx.out.app [c] (Nat.succ_pos _) (by have := HLX.out; simp only [List.length_cons, List.length_nil]; omega) hown hgrow hblk; have HFz := Lib.hid hF; have HLz := Lib.hid hLz; clear hown hgrow hnil hblk hF hLz)
            go_roundw
            case rel =>
              have e : Lz = 34 :: PF.quo (l.take (k + 1)) := by
                rw [HLz.out, ← HLE.out, PF.quo_snoc HKL.out, HX.out]
                unfold PF.q1
                rw [if_neg HC1.out, if_neg HC2.out, if_neg HC3.out]
                rfl
              rw [e] at HFz ⊢
              exact ⟨k + 1, HKL.out, by go_num, gz, cz, rfl, HFz.out⟩
            case measure => have := HKL.out; simp [intOf]; omega
end Go.Proofs.YtagiddbfhlokcaaGreatDoor.Ff
