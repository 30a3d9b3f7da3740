/- A chosen statement is taken. Conditions: what ParseInt and the reader of values answer. -/
import Derived.Test.YtigicmnngppipaaGreatDoorFBC
import Derived.Test.YtigicmnngppipaaGreatDoorFBD
namespace Go.Proofs.YtigicmnngppipaaGreatDoor.Tp
open Go.RowKit Lx
set_option maxRecDepth 100000
theorem words5 : Words ⟨#[83, 69, 76, 69, 67, 84]⟩ [wSELECT] ∧ Words ⟨#[73, 78, 84, 79]⟩ [wINTO] ∧ Words ⟨#[70, 82, 79, 77]⟩ [wFROM] ∧ Words ⟨#[71, 82, 79, 85, 80, 32, 66, 89]⟩ [wGROUP, wBY] ∧ Words ⟨#[70, 73, 76, 76]⟩ [wFILL] ∧ Words ⟨#[79, 82, 68, 69, 82, 32, 68, 69, 83, 67]⟩ [wORDER, wDESC] ∧ Words ⟨#[76, 73, 77, 73, 84]⟩ [wLIMIT] ∧ Words ⟨#[79, 70, 70, 83, 69, 84]⟩ [wOFFSET] := by
  refine ⟨?_, ?_, ?_, ?_, ?_, ?_, ?_, ?_⟩ <;> exact ⟨by decide, by decide, by decide, by decide⟩
set_option maxHeartbeats 8000000 in
theorem choose_47 (P n : Nat) {V : List UInt8 → Value × Int} (W : World) (hR : Rd V W) (hWP : W.heap.size ≤ P) (ts : List Tok) (w : World) (hL : ts.length ≤ 70000) (hW : Below W.heap.size W w) (hP : PAt w P ts n 0) :
    Calls Tryz.prog 47 #[.pointer (some ⟨P, 0, none⟩)] w (ChOut P n w (chooseP V ts)) := by
  obtain ⟨PP, hPP⟩ : ∃ PP, ChOut P n w (chooseP V ts) = PP := ⟨_, rfl⟩
  rw [hPP]
  have HPP := Lib.hid hPP
  have HR := Lib.hid hR
  have HW := Lib.hid hW
  have HWP := Lib.hid hWP
  have HPB := Lib.hid hP.lt
  have HP := Lib.hid hP
  have HL := Lib.hid hL
  clear hPP hR hW hWP hP hL
  go_enter Tryz.func47, Tryz.ntmps47
  go_upto_region 2 with (fail)
  refine wp_gen (fun w2 => ChI P n w w2 { s0 with kind := 1 } ts vNil vNil vNil ∧ w2.heap.size = w.heap.size + 2) ?start ?_
  case start => exact ⟨chi_start HP.out, by rw [alloc_size, alloc_size]⟩
  rintro w2 ⟨hc2, hsz2⟩
  have HC2 := Lib.hid hc2
  have HSZ2 := Lib.hid hsz2
  have HE0 := Lib.hid (chooseP_eq V ts)
  clear hc2 hsz2
  have HM3 := Lib.hid (must_45 P n 0 ⟨#[83, 69, 76, 69, 67, 84]⟩ wSELECT [] words5.1 ts W w2 HR.out.env (HW.out.trans (HC2.out.kp.below HW.out.size (fun k e => by show W.heap.size ≤ k; rw [e]; exact HWP.out))) HC2.out.pat)
  go_wp2_with fail
  refine HM3.out.mono ?_
  clear HM3
  rintro e w3 ⟨hk3, hm3⟩
  cases hta3 : takeAll [wSELECT] ts with
  | error q3 =>
    simp only [mustR, hta3] at hm3
    obtain rfl := hm3
    unfold stuckE
    simp (config := { zetaDelta := true }) only []
    refine ⟨rfl, ?_⟩
    rw [← HPP.out, show chooseP V ts = .error _ from HE0.out.trans (by simp only [mustP, hta3]; rfl)]
    exact ⟨HC2.out.kp.then hk3, rfl⟩
  | ok r3 =>
    simp only [mustR, hta3] at hm3
    obtain ⟨rfl, hp3⟩ := hm3
    have HC3 := Lib.hid (HC2.out.step HPB.out hk3 hp3)
    have E3 := Lib.hid hta3
    clear hta3 hp3 hk3
    have HM4 := Lib.hid (items_76 P (w.heap.size + 1) n { s0 with kind := 1 } rfl rfl W HR.out HWP.out (by have := HPB.out; omega) r3 w3 (HW.out.trans (HC3.out.kp.below HW.out.size (fun k e => by show W.heap.size ≤ k; rw [e]; exact HWP.out))) HC3.out.pat HC3.out.xat)
    go_wp2_with fail
    refine HM4.out.mono ?_
    clear HM4
    rintro e w4 ⟨hk4, hm4⟩
    have hk4' : Kp (· = P) w w4 := HC3.out.kp.trans hk4 (fun i hi hs => by
      rcases hs with e | e
      · exact e
      · omega)
    cases hit4 : itemsP { s0 with kind := 1 } r3 with
    | error q4 =>
      rw [hit4] at hm4
      obtain rfl := hm4
      unfold stuckE
      simp (config := { zetaDelta := true }) only []
      refine ⟨rfl, ?_⟩
      rw [← HPP.out, show chooseP V ts = .error _ from HE0.out.trans (by simp only [mustP, bindR, E3.out, hit4]; rfl)]
      exact ⟨hk4', rfl⟩
    | ok yq4 =>
      obtain ⟨y4, r4⟩ := yq4
      rw [hit4] at hm4
      obtain ⟨rfl, hp4, hy4, vi4, hx4, ho4⟩ := hm4
      have HC4 := Lib.hid (HC3.out.items HPB.out hk4 hp4 hy4 hx4 ho4)
      have HE4 := Lib.hid (show chooseP V ts = chA V y4 r4 from HE0.out.trans (by simp only [mustP, bindR, E3.out, hit4]))
      have HY4 := Lib.hid hy4
      have HN4 : Hid (r4.length ≤ 70000) := Lib.hid (by have := itemsP_len hit4; have := takeAll_len E3.out; have := HL.out; omega)
      clear hit4 hp4 hy4 hx4 ho4 hk4 hk4'
      have HM5 := Lib.hid (has_42 P n 0 ⟨#[73, 78, 84, 79]⟩ wINTO [] words5.2.1 r4 W w4 HR.out.env (HW.out.trans (HC4.out.kp.below HW.out.size (fun k e => by show W.heap.size ≤ k; rw [e]; exact HWP.out))) HC4.out.pat)
      go_wp2_with fail
      refine HM5.out.mono ?_
      clear HM5
      rintro e w5 ⟨hk5, hm5⟩
      rcases has_bool wINTO [] r4 with ⟨b5, r5, e5⟩ | ⟨q5, e5⟩
      case inr =>
        rw [e5] at hm5
        obtain rfl := hm5
        unfold stuckE
        simp (config := { zetaDelta := true }) only []
        refine ⟨rfl, ?_⟩
        rw [← HPP.out, show chooseP V ts = .error _ from HE4.out.trans (by simp only [chA, mayP, bindR, e5]; rfl)]
        exact ⟨HC4.out.kp.then hk5, rfl⟩
      rw [e5] at hm5
      obtain ⟨rfl, hp5⟩ := hm5
      have HC5 := Lib.hid (HC4.out.step HPB.out hk5 hp5)
      have E5 := Lib.hid e5
      clear e5 hp5 hk5
      go_upto_if 12 with (fail)
      go_cut [4] from 4 to 65 (fun _ w' => ∃ y q vi, chooseP V ts = chB V y q ∧ y = { s0 with kind := 1, all := y.all, items := y.items, into := y.into } ∧ q.length ≤ 70000 ∧ ChI P n w w' y q vi vNil vNil)
      case first =>
        cases b5 with
        | false =>
          go_wp2_with fail
          go_meet
          refine ⟨y4, r5, vi4, HE4.out.trans (by simp only [chA, mayP, bindR, E5.out]), ?_, by have := has_len E5.out; have := HN4.out; omega, HC5.out⟩
          have := HY4.out
          rw [this]
        | true =>
          have HM6 := Lib.hid (name_43 P n 0 r5 W w5 HR.out.env (HW.out.trans (HC5.out.kp.below HW.out.size (fun k e => by show W.heap.size ≤ k; rw [e]; exact HWP.out))) HC5.out.pat)
          go_wp2_with fail
          refine HM6.out.mono ?_
          clear HM6
          rintro e w6 ⟨hk6, hm6⟩
          cases hnm6 : nameP r5 with
          | error q6 =>
            rw [hnm6] at hm6
            obtain rfl := hm6
            unfold stuckE
            simp (config := { zetaDelta := true }) only []
            refine ⟨rfl, ?_⟩
            rw [← HPP.out, show chooseP V ts = .error _ from HE4.out.trans (by simp only [chA, mayP, bindR, E5.out, hnm6]; rfl)]
            exact ⟨HC5.out.kp.then hk6, rfl⟩
          | ok nr6 =>
            obtain ⟨nm6, r6⟩ := nr6
            rw [hnm6] at hm6
            obtain ⟨rfl, hp6⟩ := hm6
            have HC6 := Lib.hid (HC5.out.step HPB.out hk6 hp6)
            have E6 := Lib.hid hnm6
            clear hnm6 hp6 hk6
            have d6 : w6.cell? ⟨w.heap.size + 1, 3, none⟩ = some (.string y4.into) := Lib.cell_of_heap HC6.out.xat 3
            have f6 : w6.frozen? ⟨w.heap.size + 1, 3, none⟩ = false := Lib.frozen_of_heap HC6.out.xat 3
            obtain ⟨va4, vc4, rfl⟩ := item_form HC6.out.its
            go_wp2_with fail
            go_meet
            refine ⟨{ y4 with into := nm6 }, r6, _, HE4.out.trans (by simp only [chA, mayP, bindR, E5.out, E6.out]), ?_, by have := has_len E5.out; have := name_len E6.out; have := HN4.out; omega, HC6.out.set HPB.out 3 _ rfl HC6.out.its HC6.out.whr HC6.out.tgs⟩
            have := HY4.out
            rw [this]
      case rest =>
        obtain ⟨yA, qA, viA, hA1, hA2, hA3, hA4⟩ := hcut
        rename World => wA
        have HEA := Lib.hid hA1
        have HYA := Lib.hid hA2
        have HNA := Lib.hid hA3
        have HCA := Lib.hid hA4
        clear hA1 hA2 hA3 hA4
        have HM7 := Lib.hid (must_45 P n 0 ⟨#[70, 82, 79, 77]⟩ wFROM [] words5.2.2.1 qA W wA HR.out.env (HW.out.trans (HCA.out.kp.below HW.out.size (fun k e => by show W.heap.size ≤ k; rw [e]; exact HWP.out))) HCA.out.pat)
        go_wp2_with fail
        refine HM7.out.mono ?_
        clear HM7
        rintro e w7 ⟨hk7, hm7⟩
        cases hta7 : takeAll [wFROM] qA with
        | error q7 =>
          simp only [mustR, hta7] at hm7
          obtain rfl := hm7
          unfold stuckE
          simp (config := { zetaDelta := true }) only []
          refine ⟨rfl, ?_⟩
          rw [← HPP.out, show chooseP V ts = .error _ from HEA.out.trans (by simp only [chB, mustP, hta7]; rfl)]
          exact ⟨HCA.out.kp.then hk7, rfl⟩
        | ok r7 =>
          simp only [mustR, hta7] at hm7
          obtain ⟨rfl, hp7⟩ := hm7
          have HC7 := Lib.hid (HCA.out.step HPB.out hk7 hp7)
          have E7 := Lib.hid hta7
          clear hta7 hp7 hk7
          have HM8 := Lib.hid (name_43 P n 0 r7 W w7 HR.out.env (HW.out.trans (HC7.out.kp.below HW.out.size (fun k e => by show W.heap.size ≤ k; rw [e]; exact HWP.out))) HC7.out.pat)
          go_wp2_with fail
          refine HM8.out.mono ?_
          clear HM8
          rintro e w8 ⟨hk8, hm8⟩
          cases hnm8 : nameP r7 with
          | error q8 =>
            rw [hnm8] at hm8
            obtain rfl := hm8
            unfold stuckE
            simp (config := { zetaDelta := true }) only []
            refine ⟨rfl, ?_⟩
            rw [← HPP.out, show chooseP V ts = .error _ from HEA.out.trans (by simp only [chB, mustP, bindR, E7.out, hnm8]; rfl)]
            exact ⟨HC7.out.kp.then hk8, rfl⟩
          | ok nr8 =>
            obtain ⟨nm8, r8⟩ := nr8
            rw [hnm8] at hm8
            obtain ⟨rfl, hp8⟩ := hm8
            have HC8 := Lib.hid (HC7.out.step HPB.out hk8 hp8)
            have E8 := Lib.hid hnm8
            clear hnm8 hp8 hk8
            have d8 : w8.cell? ⟨w.heap.size + 1, 4, none⟩ = some (.string yA.frm) := Lib.cell_of_heap HC8.out.xat 4
            have f8 : w8.frozen? ⟨w.heap.size + 1, 4, none⟩ = false := Lib.frozen_of_heap HC8.out.xat 4
            have HS8 := Lib.hid (HC8.out.set HPB.out 4 (.string nm8) (x' := { yA with frm := nm8 }) rfl HC8.out.its HC8.out.whr HC8.out.tgs)
            have HN8 : Hid (r8.length ≤ 70000) := Lib.hid (by have := takeAll_len E7.out; have := name_len E8.out; have := HNA.out; omega)
            have HM9 := Lib.hid (where_44 P n W HR.out HWP.out r8 (w8.setCell ⟨w.heap.size + 1, 4, none⟩ (.string nm8)) HN8.out (HW.out.trans (HS8.out.kp.below HW.out.size (fun k e => by show W.heap.size ≤ k; rw [e]; exact HWP.out))) HS8.out.pat)
            go_wp2_with fail
            refine HM9.out.mono ?_
            clear HM9
            rintro e w9 ⟨hk9, hm9⟩
            cases hwh9 : whereP V r8 with
            | error q9 =>
              rw [hwh9] at hm9
              obtain rfl := hm9
              unfold stuckE
              simp (config := { zetaDelta := true }) only []
              refine ⟨rfl, ?_⟩
              rw [← HPP.out, show chooseP V ts = .error _ from HEA.out.trans (by simp only [chB, mustP, bindR, E7.out, E8.out, hwh9]; rfl)]
              exact ⟨HS8.out.kp.then hk9, rfl⟩
            | ok lr9 =>
              obtain ⟨l9, r9⟩ := lr9
              rw [hwh9] at hm9
              obtain ⟨v9, rfl, hv9, hp9⟩ := hm9
              obtain ⟨sa9, sc9, rfl⟩ := cds_slice hv9
              have HC9 := Lib.hid (HS8.out.where HPB.out hk9 hp9 hv9)
              have hx9 := (HS8.out.step HPB.out hk9 hp9).xat
              have d9 : w9.cell? ⟨w.heap.size + 1, 5, none⟩ = some (.slice none 0 0) := Lib.cell_of_heap hx9 5
              have f9 : w9.frozen? ⟨w.heap.size + 1, 5, none⟩ = false := Lib.frozen_of_heap hx9 5
              clear d8 f8 hx9
              obtain ⟨y9, hy9⟩ : ∃ y9 : S0, { yA with frm := nm8, whr := l9 } = y9 := ⟨_, rfl⟩
              have HE9 := Lib.hid (show chooseP V ts = chC V y9 r9 from HEA.out.trans (by simp only [chB, mustP, bindR, E7.out, E8.out, hwh9, hy9]))
              have HC9' := Lib.hid (show ChI P n w _ y9 r9 viA _ vNil from by have := HC9.out; rw [← hy9]; exact this)
              have HY9 := Lib.hid (show y9 = { s0 with kind := 1, all := y9.all, items := y9.items, into := y9.into, frm := y9.frm, whr := y9.whr } from by rw [← hy9]; have := HYA.out; rw [this])
              clear hy9 hwh9 hv9 hp9 hk9
              have HM10 := Lib.hid (has_42 P n 0 ⟨#[71, 82, 79, 85, 80, 32, 66, 89]⟩ wGROUP [wBY] words5.2.2.2.1 r9 W (w9.setCell ⟨w.heap.size + 1, 5, none⟩ (.slice sa9 l9.length sc9)) HR.out.env (HW.out.trans (HC9'.out.kp.below HW.out.size (fun k e => by show W.heap.size ≤ k; rw [e]; exact HWP.out))) HC9'.out.pat)
              go_wp2_with fail
              refine HM10.out.mono ?_
              clear HM10
              rintro e w10 ⟨hk10, hm10⟩
              rcases has_bool wGROUP [wBY] r9 with ⟨b10, r10, e10⟩ | ⟨q10, e10⟩
              case inr =>
                rw [e10] at hm10
                obtain rfl := hm10
                unfold stuckE
                simp (config := { zetaDelta := true }) only []
                refine ⟨rfl, ?_⟩
                rw [← HPP.out, show chooseP V ts = .error _ from HE9.out.trans (by simp only [chC, mayP, bindR, e10]; rfl)]
                exact ⟨HC9'.out.kp.then hk10, rfl⟩
              rw [e10] at hm10
              obtain ⟨rfl, hp10⟩ := hm10
              have HC10 := Lib.hid (HC9'.out.step HPB.out hk10 hp10)
              have E10 := Lib.hid e10
              clear e10 hp10 hk10
              clear d9 f9
              go_upto_if 25 with (fail)
              go_cut [4] from 4 to 65 (fun _ w' => ∃ y q vi vw vt, chooseP V ts = chD V y q ∧ y.desc = false ∧ ChI P n w w' y q vi vw vt)
              case first =>
                cases b10 with
                | false =>
                  go_wp2_with fail
                  go_meet
                  exact ⟨y9, r10, _, _, _, HE9.out.trans (by simp only [chC, mayP, bindR, E10.out]), by rw [HY9.out]; rfl, HC10.out⟩
                | true =>
                  have HM11 := Lib.hid (dims_77 P (w.heap.size + 1) n y9.all viA y9.into y9.frm (.slice sa9 l9.length sc9) y9 (by rw [HY9.out]; rfl) (by rw [HY9.out]; rfl) W HR.out HWP.out (by have := HPB.out; omega) r10 w10 (HW.out.trans (HC10.out.kp.below HW.out.size (fun k e => by show W.heap.size ≤ k; rw [e]; exact HWP.out))) HC10.out.pat (HC10.out.xat.trans (by rw [HY9.out]; rfl)))
                  go_wp2_with fail
                  refine HM11.out.mono ?_
                  clear HM11
                  rintro e w11 ⟨hk11, hm11⟩
                  have hk11' : Kp (· = P) w w11 := HC10.out.kp.trans hk11 (fun i hi hs => by
                    rcases hs with e | e
                    · exact e
                    · omega)
                  cases hdi : dimsL 10 y9 r10 with
                  | error q11 =>
                    rw [hdi] at hm11
                    obtain rfl := hm11
                    unfold stuckE
                    simp (config := { zetaDelta := true }) only []
                    refine ⟨rfl, ?_⟩
                    rw [← HPP.out, show chooseP V ts = .error _ from HE9.out.trans (by simp only [chC, mayP, bindR, E10.out, hdi]; rfl)]
                    exact ⟨hk11', rfl⟩
                  | ok yq11 =>
                    obtain ⟨y11, r11⟩ := yq11
                    rw [hdi] at hm11
                    obtain ⟨rfl, hp11, hy11, vt11, hx11, ho11⟩ := hm11
                    have HC11 := Lib.hid (HC10.out.dims HPB.out HY9.out hk11 hp11 hy11 hx11 ho11)
                    have HD := Lib.hid hdi
                    have HY11 := Lib.hid hy11
                    clear hdi hp11 hy11 hx11 ho11 hk11 hk11'
                    go_wp2_with fail
                    go_meet
                    exact ⟨y11, r11, _, _, _, HE9.out.trans (by simp only [chC, mayP, bindR, E10.out, HD.out]), by rw [HY11.out]; show y9.desc = false; rw [HY9.out]; rfl, HC11.out⟩
              case rest =>
                obtain ⟨yB, qB, viB, vwB, vtB, hB1, hB2, hB3⟩ := hcut
                rename World => wB
                have HEB := Lib.hid hB1
                have HDB := Lib.hid hB2
                have HCB := Lib.hid hB3
                clear hB1 hB2 hB3
                have HM12 := Lib.hid (has_42 P n 0 ⟨#[70, 73, 76, 76]⟩ wFILL [] words5.2.2.2.2.1 qB W wB HR.out.env (HW.out.trans (HCB.out.kp.below HW.out.size (fun k e => by show W.heap.size ≤ k; rw [e]; exact HWP.out))) HCB.out.pat)
                go_wp2_with fail
                refine HM12.out.mono ?_
                clear HM12
                rintro e w12 ⟨hk12, hm12⟩
                rcases has_bool wFILL [] qB with ⟨b12, r12, e12⟩ | ⟨q12, e12⟩
                case inr =>
                  rw [e12] at hm12
                  obtain rfl := hm12
                  unfold stuckE
                  simp (config := { zetaDelta := true }) only []
                  refine ⟨rfl, ?_⟩
                  rw [← HPP.out, show chooseP V ts = .error _ from HEB.out.trans (by simp only [chD, mayP, bindR, e12]; rfl)]
                  exact ⟨HCB.out.kp.then hk12, rfl⟩
                rw [e12] at hm12
                obtain ⟨rfl, hp12⟩ := hm12
                have HC12 := Lib.hid (HCB.out.step HPB.out hk12 hp12)
                have E12 := Lib.hid e12
                clear e12 hp12 hk12
                go_upto_if 29 with (fail)
                go_cut [4] from 4 to 65 (fun _ w' => ∃ y q vi vw vt, chooseP V ts = chG y q ∧ y.desc = false ∧ ChI P n w w' y q vi vw vt)
                case first =>
                  cases b12 with
                  | false =>
                    go_wp2_with fail
                    go_meet
                    exact ⟨yB, r12, _, _, _, HEB.out.trans (by simp only [chD, mayP, bindR, E12.out]), HDB.out, HC12.out⟩
                  | true =>
                    have hal : ∀ o, Kp (· = P) w12 (w12.alloc o) := fun o => (Kp.refl _ _).alloc o
                    have HC12' := Lib.hid (HC12.out.step HPB.out (hal (.cells #[.string wNONE, .string wNULL, .string wPREVIOUS] 9 (0, 0))) (HC12.out.pat.later ((Below.refl _ _).alloc (Nat.le_refl _) _)))
                    have HM13 := Lib.hid (index_78 P n w12.heap.size r12 W (w12.alloc (.cells #[.string wNONE, .string wNULL, .string wPREVIOUS] 9 (0, 0))) HR.out.env (HW.out.trans (HC12'.out.kp.below HW.out.size (fun k e => by show W.heap.size ≤ k; rw [e]; exact HWP.out))) HWP.out HC12'.out.pat (strs_new w12) (by have := lt_of_block HC12.out.xat; have := HPB.out; omega))
                    obtain ⟨⟨k, q13⟩, hix⟩ : ∃ p, ixP fills 0 r12 = p := ⟨_, rfl⟩
                    have hks := ixP_size r12
                    rw [hix] at HM13 hks
                    have HIX := Lib.hid hix
                    have hkw : IntKind.i64.wrap (1 + k) = k + 1 := by
                      simp only at hks
                      rw [IntKind.wrap_i64]
                      omega
                    have HFP := Lib.hid (show fillP V yB r12 = if k + 1 ≠ 0 then .ok ({ yB with fill := k + 1 }, q13) else match numP V q13 with
                        | some (v, r) => .ok ({ yB with fill := 4, number := v }, r)
                        | none => .error q13 from by have := fillP_eq V yB r12; rw [HIX.out] at this; exact this)
                    clear hix hks hal
                    go_wp2_with fail
                    refine HM13.out.mono ?_
                    clear HM13
                    rintro e w13 ⟨hk13, rfl, hp13⟩
                    have HC13 := Lib.hid (HC12'.out.step HPB.out hk13 hp13)
                    clear hk13 hp13
                    have d13 : w13.cell? ⟨w.heap.size + 1, 8, none⟩ = some (.int .i64 yB.fill) := Lib.cell_of_heap HC13.out.xat 8
                    have f13 : w13.frozen? ⟨w.heap.size + 1, 8, none⟩ = false := Lib.frozen_of_heap HC13.out.xat 8
                    have HS13 := Lib.hid (HC13.out.set HPB.out 8 (.int .i64 (k + 1)) (x' := { yB with fill := k + 1 }) rfl HC13.out.its HC13.out.whr HC13.out.tgs)
                    by_cases hk0 : k + 1 = 0
                    · have hk0b : (k + 1 == 0) = true := by rw [hk0]; rfl
                      have HFQ := Lib.hid (HFP.out.trans (if_neg (fun h => h hk0)))
                      have HM14 := Lib.hid (number_79 P n 0 q13 W (w13.setCell ⟨w.heap.size + 1, 8, none⟩ (.int .i64 (k + 1))) HR.out (HW.out.trans (HS13.out.kp.below HW.out.size (fun k e => by show W.heap.size ≤ k; rw [e]; exact HWP.out))) HS13.out.pat)
                      clear hk0
                      go_wp2_with fail
                      refine HM14.out.mono ?_
                      clear HM14
                      rintro e w14 ⟨hk14, hm14⟩
                      clear d13 f13
                      cases hnu : numP V q13 with
                      | none =>
                        rw [hnu] at hm14
                        obtain ⟨rfl, hp14⟩ := hm14
                        have HC14 := Lib.hid (HS13.out.step HPB.out hk14 hp14)
                        have HM15 := Lib.hid (wrong_24 P n 0 q13 (w14.alloc (.cells #[.int .i64 0, .int .u64 0, .string ⟨#[]⟩] 28 (0, 0))) (HC14.out.pat.later ((Below.refl _ _).alloc (Nat.le_refl _) _)))
                        have HNU := Lib.hid hnu
                        clear hnu hk14 hp14
                        unfold valV val0
                        go_wp2_with fail
                        refine HM15.out.mono ?_
                        clear HM15
                        rintro e w15 ⟨rfl, rfl⟩
                        unfold stuckE
                        simp (config := { zetaDelta := true }) only []
                        refine ⟨rfl, ?_⟩
                        rw [← HPP.out, show chooseP V ts = .error _ from HEB.out.trans (by simp only [chD, mayP, bindR, E12.out, HFQ.out, HNU.out]; rfl)]
                        exact ⟨HC14.out.kp.alloc _, rfl⟩
                      | some vr =>
                        obtain ⟨⟨vk, vb, vx⟩, r14⟩ := vr
                        rw [hnu] at hm14
                        obtain ⟨rfl, hp14⟩ := hm14
                        have HC14 := Lib.hid (HS13.out.step HPB.out hk14 hp14)
                        have HNU := Lib.hid hnu
                        clear hnu hk14 hp14
                        unfold valV
                        go_upto_region 17 with (fail)
                        refine wp_gen (fun w15 => ChI P n w w15 { yB with fill := k + 1 } r14 viB vwB vtB ∧ w15.heap[w14.heap.size]? = some (.cells #[.int .i64 vk, .int .u64 vb, .string vx] 28 (0, 0)) ∧ w14.heap.size < w15.heap.size ∧ w.heap.size + 1 < w14.heap.size) ⟨HC14.out.step HPB.out ((Kp.refl _ _).alloc _) (HC14.out.pat.later ((Below.refl _ _).alloc (Nat.le_refl _) _)), newest _ _, by rw [alloc_size]; omega, lt_of_block HC14.out.xat⟩ ?_
                        rintro w15 ⟨hc15, hn15, hs15, hs14⟩
                        have hc8 := hc15.set HPB.out 8 (.int .i64 4) (x' := { yB with fill := 4 }) rfl hc15.its hc15.whr hc15.tgs
                        have hc9 := hc8.set HPB.out 9 (.int .i64 vk) (x' := { yB with fill := 4, number := (vk, yB.number.2.1, yB.number.2.2) }) rfl hc8.its hc8.whr hc8.tgs
                        have hc10 := hc9.set HPB.out 10 (.int .u64 vb) (x' := { yB with fill := 4, number := (vk, vb, yB.number.2.2) }) rfl hc9.its hc9.whr hc9.tgs
                        have hc11 := hc10.set HPB.out 11 (.string vx) (x' := { yB with fill := 4, number := (vk, vb, vx) }) rfl hc10.its hc10.whr hc10.tgs
                        have HC15 := Lib.hid (hc11.step HPB.out ((Kp.refl _ _).drew) (hc11.pat.later (Below.refl _ _).drew))
                        clear hc8 hc9 hc10 hc11
                        have t0 : w15.cell? ⟨w14.heap.size, 0, none⟩ = some (.int .i64 vk) := Lib.cell_of_heap hn15 0
                        have t1 : w15.cell? ⟨w14.heap.size, 1, none⟩ = some (.int .u64 vb) := Lib.cell_of_heap hn15 1
                        have t2 : w15.cell? ⟨w14.heap.size, 2, none⟩ = some (.string vx) := Lib.cell_of_heap hn15 2
                        have d8 : w15.cell? ⟨w.heap.size + 1, 8, none⟩ = some (.int .i64 (k + 1)) := Lib.cell_of_heap hc15.xat 8
                        have f8 : w15.frozen? ⟨w.heap.size + 1, 8, none⟩ = false := Lib.frozen_of_heap hc15.xat 8
                        have d9 : w15.cell? ⟨w.heap.size + 1, 9, none⟩ = some (.int .i64 yB.number.1) := Lib.cell_of_heap hc15.xat 9
                        have f9 : w15.frozen? ⟨w.heap.size + 1, 9, none⟩ = false := Lib.frozen_of_heap hc15.xat 9
                        have d10 : w15.cell? ⟨w.heap.size + 1, 10, none⟩ = some (.int .u64 yB.number.2.1) := Lib.cell_of_heap hc15.xat 10
                        have f10 : w15.frozen? ⟨w.heap.size + 1, 10, none⟩ = false := Lib.frozen_of_heap hc15.xat 10
                        have d11 : w15.cell? ⟨w.heap.size + 1, 11, none⟩ = some (.string yB.number.2.2) := Lib.cell_of_heap hc15.xat 11
                        have f11 : w15.frozen? ⟨w.heap.size + 1, 11, none⟩ = false := Lib.frozen_of_heap hc15.xat 11
                        have hne : w14.heap.size ≠ w.heap.size + 1 := by omega
                        clear hc15 hn15
                        go_region
                        all_goals
                          go_wp2_with fail
                          go_meet
                          exact ⟨{ yB with fill := 4, number := (vk, vb, vx) }, r14, _, _, _, HEB.out.trans (by simp only [chD, mayP, bindR, E12.out, HFQ.out, HNU.out]), HDB.out, HC15.out⟩
                    · have hk0b : (k + 1 == 0) = false := by
                        rw [beq_eq_false_iff_ne]; exact hk0
                      have HFQ := Lib.hid (HFP.out.trans (if_pos hk0))
                      clear hk0
                      go_wp2_with fail
                      go_meet
                      exact ⟨{ yB with fill := k + 1 }, q13, _, _, _, HEB.out.trans (by simp only [chD, mayP, bindR, E12.out, HFQ.out]), HDB.out, HS13.out⟩
                case rest =>
                  obtain ⟨yC, qC, viC, vwC, vtC, hC1, hC2, hC3⟩ := hcut
                  rename World => wC
                  have HEC := Lib.hid hC1
                  have HDC := Lib.hid hC2
                  have HCC := Lib.hid hC3
                  clear hC1 hC2 hC3
                  have HM16 := Lib.hid (has_42 P n 0 ⟨#[79, 82, 68, 69, 82, 32, 68, 69, 83, 67]⟩ wORDER [wDESC] words5.2.2.2.2.2.1 qC W wC HR.out.env (HW.out.trans (HCC.out.kp.below HW.out.size (fun k e => by show W.heap.size ≤ k; rw [e]; exact HWP.out))) HCC.out.pat)
                  go_wp2_with fail
                  refine HM16.out.mono ?_
                  clear HM16
                  rintro e w16 ⟨hk16, hm16⟩
                  rcases has_bool wORDER [wDESC] qC with ⟨b16, r16, e16⟩ | ⟨q16, e16⟩
                  case inr =>
                    rw [e16] at hm16
                    obtain rfl := hm16
                    unfold stuckE
                    simp (config := { zetaDelta := true }) only []
                    refine ⟨rfl, ?_⟩
                    rw [← HPP.out, show chooseP V ts = .error _ from HEC.out.trans (by simp only [chG, mayP, bindR, e16]; rfl)]
                    exact ⟨HCC.out.kp.then hk16, rfl⟩
                  rw [e16] at hm16
                  obtain ⟨rfl, hp16⟩ := hm16
                  have HC16 := Lib.hid (HCC.out.step HPB.out hk16 hp16)
                  have E16 := Lib.hid e16
                  clear e16 hp16 hk16
                  have d16 : w16.cell? ⟨w.heap.size + 1, 12, none⟩ = some (.bool yC.desc) := Lib.cell_of_heap HC16.out.xat 12
                  have f16 : w16.frozen? ⟨w.heap.size + 1, 12, none⟩ = false := Lib.frozen_of_heap HC16.out.xat 12
                  have HE16 := Lib.hid (show chooseP V ts = chE { yC with desc := b16 } r16 from HEC.out.trans (by
                    cases b16 with
                    | false =>
                      have : ({ yC with desc := false } : S0) = yC := by have := HDC.out; cases yC; simp only at this; subst this; rfl
                      simp only [chG, mayP, bindR, E16.out, this]
                    | true => simp only [chG, mayP, bindR, E16.out]))
                  have HS16 := Lib.hid (HC16.out.set HPB.out 12 (.bool b16) (x' := { yC with desc := b16 }) rfl HC16.out.its HC16.out.whr HC16.out.tgs)
                  have HM17 := Lib.hid (has_42 P n 0 ⟨#[76, 73, 77, 73, 84]⟩ wLIMIT [] words5.2.2.2.2.2.2.1 r16 W (w16.setCell ⟨w.heap.size + 1, 12, none⟩ (.bool b16)) HR.out.env (HW.out.trans (HS16.out.kp.below HW.out.size (fun k e => by show W.heap.size ≤ k; rw [e]; exact HWP.out))) HS16.out.pat)
                  go_wp2_with fail
                  refine HM17.out.mono ?_
                  clear HM17
                  rintro e w17 ⟨hk17, hm17⟩
                  rcases has_bool wLIMIT [] r16 with ⟨b17, r17, e17⟩ | ⟨q17, e17⟩
                  case inr =>
                    rw [e17] at hm17
                    obtain rfl := hm17
                    unfold stuckE
                    simp (config := { zetaDelta := true }) only []
                    refine ⟨rfl, ?_⟩
                    rw [← HPP.out, show chooseP V ts = .error _ from HE16.out.trans (by simp only [chE, mayP, bindR, e17]; rfl)]
                    exact ⟨HS16.out.kp.then hk17, rfl⟩
                  rw [e17] at hm17
                  obtain ⟨rfl, hp17⟩ := hm17
                  have HC17 := Lib.hid (HS16.out.step HPB.out hk17 hp17)
                  have E17 := Lib.hid e17
                  clear e17 hp17 hk17
                  clear d16 f16
                  go_upto_if 55 with (fail)
                  go_cut [4] from 4 to 65 (fun _ w' => ∃ y q vi vw vt, chooseP V ts = chF y q ∧ ChI P n w w' y q vi vw vt)
                  case first =>
                    cases b17 with
                    | false =>
                      go_wp2_with fail
                      go_meet
                      exact ⟨_, r17, _, _, _, HE16.out.trans (by simp only [chE, mayP, bindR, E17.out]), HC17.out⟩
                    | true =>
                      have HM18 := Lib.hid (integer_80 1 4611686018427387903 P n 0 r17 W w17 HR.out (HW.out.trans (HC17.out.kp.below HW.out.size (fun k e => by show W.heap.size ≤ k; rw [e]; exact HWP.out))) HC17.out.pat)
                      go_wp2_with fail
                      refine HM18.out.mono ?_
                      clear HM18
                      rintro e w18 ⟨hk18, hm18⟩
                      cases hin : intP 1 4611686018427387903 r17 with
                      | error q18 =>
                        rw [hin] at hm18
                        obtain rfl := hm18
                        unfold stuckE
                        simp (config := { zetaDelta := true }) only []
                        refine ⟨rfl, ?_⟩
                        rw [← HPP.out, show chooseP V ts = .error _ from HE16.out.trans (by simp only [chE, mayP, bindR, E17.out, hin]; rfl)]
                        exact ⟨HC17.out.kp.then hk18, rfl⟩
                      | ok nr18 =>
                        obtain ⟨k18, r18⟩ := nr18
                        rw [hin] at hm18
                        obtain ⟨rfl, hp18⟩ := hm18
                        have HC18 := Lib.hid (HC17.out.step HPB.out hk18 hp18)
                        have E18 := Lib.hid hin
                        clear hin hp18 hk18
                        have d18 : w18.cell? ⟨w.heap.size + 1, 13, none⟩ = some (.int .i64 yC.limit) := Lib.cell_of_heap HC18.out.xat 13
                        have f18 : w18.frozen? ⟨w.heap.size + 1, 13, none⟩ = false := Lib.frozen_of_heap HC18.out.xat 13
                        go_wp2_with fail
                        go_meet
                        exact ⟨{ yC with desc := b16, limit := k18 }, r18, _, _, _, HE16.out.trans (by simp only [chE, mayP, bindR, E17.out, E18.out]), HC18.out.set HPB.out 13 _ rfl HC18.out.its HC18.out.whr HC18.out.tgs⟩
                  case rest =>
                    obtain ⟨yD, qD, viD, vwD, vtD, hD1, hD2⟩ := hcut
                    rename World => wD
                    have HED := Lib.hid hD1
                    have HCD := Lib.hid hD2
                    clear hD1 hD2
                    have HM19 := Lib.hid (has_42 P n 0 ⟨#[79, 70, 70, 83, 69, 84]⟩ wOFFSET [] words5.2.2.2.2.2.2.2 qD W wD HR.out.env (HW.out.trans (HCD.out.kp.below HW.out.size (fun k e => by show W.heap.size ≤ k; rw [e]; exact HWP.out))) HCD.out.pat)
                    go_wp2_with fail
                    refine HM19.out.mono ?_
                    clear HM19
                    rintro e w19 ⟨hk19, hm19⟩
                    rcases has_bool wOFFSET [] qD with ⟨b19, r19, e19⟩ | ⟨q19, e19⟩
                    case inr =>
                      rw [e19] at hm19
                      obtain rfl := hm19
                      unfold stuckE
                      simp (config := { zetaDelta := true }) only []
                      refine ⟨rfl, ?_⟩
                      rw [← HPP.out, show chooseP V ts = .error _ from HED.out.trans (by simp only [chF, mayP, e19]; rfl)]
                      exact ⟨HCD.out.kp.then hk19, rfl⟩
                    rw [e19] at hm19
                    obtain ⟨rfl, hp19⟩ := hm19
                    have HC19 := Lib.hid (HCD.out.step HPB.out hk19 hp19)
                    have E19 := Lib.hid e19
                    clear e19 hp19 hk19
                    go_upto_if 60 with (fail)
                    go_cut [4] from 4 to 65 (fun _ w' => ∃ y q vi vw vt, chooseP V ts = .ok (y, q) ∧ ChI P n w w' y q vi vw vt)
                    case first =>
                      cases b19 with
                      | false =>
                        go_wp2_with fail
                        go_meet
                        exact ⟨_, r19, _, _, _, HED.out.trans (by simp only [chF, mayP, E19.out]), HC19.out⟩
                      | true =>
                        have HM20 := Lib.hid (integer_80 0 4611686018427387903 P n 0 r19 W w19 HR.out (HW.out.trans (HC19.out.kp.below HW.out.size (fun k e => by show W.heap.size ≤ k; rw [e]; exact HWP.out))) HC19.out.pat)
                        go_wp2_with fail
                        refine HM20.out.mono ?_
                        clear HM20
                        rintro e w20 ⟨hk20, hm20⟩
                        cases hin : intP 0 4611686018427387903 r19 with
                        | error q20 =>
                          rw [hin] at hm20
                          obtain rfl := hm20
                          unfold stuckE
                          simp (config := { zetaDelta := true }) only []
                          refine ⟨rfl, ?_⟩
                          rw [← HPP.out, show chooseP V ts = .error _ from HED.out.trans (by simp only [chF, mayP, bindR, E19.out, hin]; rfl)]
                          exact ⟨HC19.out.kp.then hk20, rfl⟩
                        | ok nr20 =>
                          obtain ⟨k20, r20⟩ := nr20
                          rw [hin] at hm20
                          obtain ⟨rfl, hp20⟩ := hm20
                          have HC20 := Lib.hid (HC19.out.step HPB.out hk20 hp20)
                          have E20 := Lib.hid hin
                          clear hin hp20 hk20
                          have d20 : w20.cell? ⟨w.heap.size + 1, 14, none⟩ = some (.int .i64 yD.offset) := Lib.cell_of_heap HC20.out.xat 14
                          have f20 : w20.frozen? ⟨w.heap.size + 1, 14, none⟩ = false := Lib.frozen_of_heap HC20.out.xat 14
                          go_wp2_with fail
                          go_meet
                          exact ⟨{ yD with offset := k20 }, r20, _, _, _, HED.out.trans (by simp only [chF, mayP, bindR, E19.out, E20.out]), HC20.out.set HPB.out 14 _ rfl HC20.out.its HC20.out.whr HC20.out.tgs⟩
                    case rest =>
                      obtain ⟨yE, qE, viE, vwE, vtE, hE1, hE2⟩ := hcut
                      rename World => wE
                      obtain ⟨cs, hcs⟩ : ∃ cs, (stCells yE viE vwE vtE vNil).toArray = cs := ⟨_, rfl⟩
                      have hsz : cs.size = 17 := by rw [← hcs]; exact st_size _ _ _ _ _
                      have h1c : cs.all (·.oneCell') = true := by rw [← hcs]; exact hE2.one
                      have HX := Lib.hid (show wE.heap[w.heap.size + 1]? = some (.cells cs 31 (0, 0)) from by rw [← hcs]; exact hE2.xat)
                      have HR2 := Lib.hid hE2.rat
                      have HS := Lib.hid (show (Tryz.prog.info? 31).map (·.size) = some cs.size from by rw [hsz]; exact info31s)
                      have H1 := Lib.hid h1c
                      have HZ := Lib.hid (show z17.size = cs.size from by rw [hsz]; rfl)
                      have HEE := Lib.hid hE1
                      have HCE := Lib.hid hE2
                      have HCS := Lib.hid hcs
                      clear hE1 hE2 hcs hsz h1c
                      go_wp2_with (first
                        | (refine wpList_load_row (by rfl) 31 _ (by rfl) (w.heap.size + 1) (by rfl) 31 cs (0, 0) _ HX.out Tryz.underlying31 (by rfl) HS.out ?_)
                        | (refine wpList_store_row (by rfl) 31 _ _ (by rfl) w.heap.size cs (by rfl) (by rfl) 31 z17 HR2.out HS.out HZ.out H1.out ?_))
                      refine bodyPost_ret (results_cell_row rfl _ _ w.heap.size 31 cs (0, 0) _ rfl (setRow_heap _ _ _ _ _ _ HR2.out) Tryz.underlying31 (by rfl) HS.out) rfl ?_
                      rw [← HPP.out]
                      exact HCE.out.fin HPB.out HCS.out HEE.out
end Go.Proofs.YtigicmnngppipaaGreatDoor.Tp
