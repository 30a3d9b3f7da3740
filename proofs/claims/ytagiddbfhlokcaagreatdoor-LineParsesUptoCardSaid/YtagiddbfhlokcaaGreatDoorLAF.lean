/- Several texts of this proof, laid together. Conditions: as each says. -/
import Derived.Test.YtagiddbfhlokcaaGreatDoorLAB
import Derived.Deep.CutBlock
import Derived.WalkMore
import Derived.Outline
import Derived.Laws.IdiomStrings
import Derived.Lib.BufferRead
import Derived.Test.YtagiddbfhlokcaaGreatDoorLAE
/- The other package's digits and isFloat: they answer as the plain texts do. Condition: the text's length. -/
namespace Go.Proofs.YtagiddbfhlokcaaGreatDoor
open Go.RowKit
set_option maxRecDepth 100000
theorem at_cons {l : List UInt8} {k : Nat} {c : UInt8} {t : List UInt8} (e : l.drop k = c :: t) : ∃ h : k < (bs l).size, (bs l)[k] = c ∧ (k : Int) < ((bs l).size : Int) ∧ l.drop (k + 1) = t ∧ k + 1 ≤ l.length := by
  have hk : k < l.length := by
    rcases Nat.lt_or_ge k l.length with h | h
    · exact h
    · rw [List.drop_of_length_le h] at e; cases e
  have h : k < (bs l).size := by rw [bs_size]; exact hk
  rw [List.drop_eq_getElem_cons hk] at e
  injection e with e1 e2
  exact ⟨h, by rw [bs_get]; exact e1, by omega, e2, hk⟩
theorem at_nil {l : List UInt8} {k : Nat} (hk : k ≤ l.length) (e : l.drop k = []) : ¬((k : Int) < ((bs l).size : Int)) ∧ k = (bs l).size := by
  have : (l.drop k).length = 0 := by rw [e]; rfl
  simp at this
  have h2 : (bs l).size = l.length := bs_size l
  omega
theorem isDig_true {c : UInt8} (h : PF.isDig c = true) : (48 : Int) ≤ (c.toNat : Int) ∧ (c.toNat : Int) ≤ 57 := by
  simp only [PF.isDig, Bool.and_eq_true, decide_eq_true_eq] at h
  omega
theorem isDig_false {c : UInt8} (h : PF.isDig c = false) : ¬(48 : Int) ≤ (c.toNat : Int) ∨ ((48 : Int) ≤ (c.toNat : Int) ∧ ¬(c.toNat : Int) ≤ 57) := by
  simp only [PF.isDig, Bool.and_eq_false_iff, decide_eq_false_iff_not] at h
  omega
def tw (l : List UInt8) (k : Nat) : Nat := ((l.drop k).takeWhile PF.isDig).length
theorem tw_yes {l : List UInt8} {k : Nat} {c : UInt8} {t : List UInt8} (e : l.drop k = c :: t) (h : PF.isDig c = true) : tw l k = tw l (k + 1) + 1 := by
  have h2 := (at_cons e).choose_spec.2.2.1
  unfold tw
  rw [h2, e, List.takeWhile_cons, if_pos h]
  rfl
theorem tw_no {l : List UInt8} {k : Nat} {c : UInt8} {t : List UInt8} (e : l.drop k = c :: t) (h : PF.isDig c = false) : tw l k = 0 := by
  unfold tw
  rw [e, List.takeWhile_cons, if_neg (by rw [h]; decide)]
  rfl
theorem tw_end {l : List UInt8} {k : Nat} (e : l.drop k = []) : tw l k = 0 := by unfold tw; rw [e]; rfl
theorem digits79 (l : List UInt8) (i : Nat) (hl : l.length ≤ 281474976710656) (hi : i ≤ l.length) (w : World) :
    Calls Tryz.prog 79 #[.string (bs l), .int .i64 (i : Int)] w fun e w' => e = .returned (.int .i64 ((i + tw l i : Nat) : Int)) ∧ w = w' := by
  obtain ⟨m, hm⟩ : ∃ m, i + tw l i = m := ⟨_, rfl⟩
  rw [hm]
  go_enter Tryz.func79, Tryz.ntmps79
  go_wp2
  go_loopw [1] (fun v wr => ∃ k : Nat, v = .int .i64 (k : Int) ∧ k ≤ l.length ∧ k + tw l k = m ∧ w = wr) (fun v _ => match v with | .int _ k => l.length - k.toNat | _ => 0)
  case atStart => exact ⟨i, rfl, hi, hm, rfl⟩
  case round =>
    obtain ⟨k, rfl, hk, hkk, rfl⟩ := hrel
    have HKK := Lib.hid hkk
    clear hkk
    rcases list_cases (l.drop k) with e | ⟨c, t, e⟩
    · have h1 := (at_nil hk e).1
      have h0 : Hid (k = m) := Lib.hid (by rw [← HKK.out, tw_end e]; rfl)
      clear e
      go_wp2_with fail
      go_ret
      exact ⟨by rw [← h0.out]; rfl, rfl⟩
    · obtain ⟨hlt, hg, hz, hd, hk1⟩ := at_cons e
      cases hc : PF.isDig c with
      | true =>
        obtain ⟨d1, d2⟩ := isDig_true hc
        have HK2 : Hid (k + 1 + tw l (k + 1) = m) := Lib.hid (by rw [← HKK.out, tw_yes e hc]; omega)
        clear e hc hd
        go_wp2_with fail
        go_roundw
        case rel => exact ⟨k + 1, rfl, hk1, HK2.out, trivial⟩
        case measure => simp; omega
      | false =>
        have h0 : Hid (k = m) := Lib.hid (by rw [← HKK.out, tw_no e hc]; rfl)
        rcases isDig_false hc with d1 | ⟨d1, d2⟩
        · clear e hc hd
          go_wp2_with fail
          go_ret
          exact ⟨by rw [← h0.out]; rfl, rfl⟩
        · clear e hc hd
          go_wp2_with fail
          go_ret
          exact ⟨by rw [← h0.out]; rfl, rfl⟩
theorem drop_tw (l : List UInt8) (k : Nat) : l.drop (k + tw l k) = (l.drop k).dropWhile PF.isDig := by
  unfold tw
  rw [← List.drop_drop]
  have key : ∀ u : List UInt8, u.drop (u.takeWhile PF.isDig).length = u.dropWhile PF.isDig := by
    intro u
    have h := List.takeWhile_append_dropWhile (p := PF.isDig) (l := u)
    calc u.drop (u.takeWhile PF.isDig).length = (u.takeWhile PF.isDig ++ u.dropWhile PF.isDig).drop (u.takeWhile PF.isDig).length := by rw [h]
      _ = _ := List.drop_left' rfl
  exact key _
theorem tw_le (l : List UInt8) (k : Nat) (hk : k ≤ l.length) : k + tw l k ≤ l.length := by
  unfold tw
  have := take_drop_len (l.drop k)
  simp at this
  omega
theorem tw_empty (l : List UInt8) (k : Nat) : ((l.drop k).takeWhile PF.isDig).isEmpty = decide (tw l k = 0) := by
  unfold tw
  cases (l.drop k).takeWhile PF.isDig <;> simp
/-- Where the sign ends. -/
def p0 (l : List UInt8) : Nat := if PF.isNeg l then 1 else 0
theorem p0_drop (l : List UInt8) : l.drop (p0 l) = PF.body l ∧ p0 l ≤ l.length := by
  by_cases hc : ∃ r, l = 45 :: r
  · obtain ⟨r, rfl⟩ := hc
    unfold p0
    rw [(PF.body_neg r).1, (PF.body_neg r).2, if_pos rfl]
    exact ⟨rfl, by simp⟩
  · have hb := PF.body_pos (l := l) (fun r e => hc ⟨r, e⟩)
    unfold p0
    rw [hb.1, hb.2, if_neg (by decide)]
    exact ⟨rfl, by omega⟩
theorem isNeg_head (l : List UInt8) : PF.isNeg l = headIs 45 l := by
  by_cases hc : ∃ r, l = 45 :: r
  · obtain ⟨r, rfl⟩ := hc; rfl
  · rw [(PF.body_pos (l := l) (fun r e => hc ⟨r, e⟩)).2, head_no (fun t e => hc ⟨t, e⟩)]
theorem head_yes {c : UInt8} {r : List UInt8} (h : headIs c r = true) : ∃ t, r = c :: t := by
  cases r with
  | nil => cases h
  | cons a t => exact ⟨t, by rw [of_decide_eq_true h]⟩
theorem tailM_no {r : List UInt8} (h : headIs 46 r = false) : PF.tailM r = PF.tailE r := by
  unfold PF.tailM
  split
  · cases h
  · rfl
theorem tailE_no {r : List UInt8} (h : isE r = false) : PF.tailE r = r.isEmpty := by
  cases r with
  | nil => rfl
  | cons c t =>
    unfold PF.tailE
    have : (decide (c = 101) || decide (c = 69)) = false := h
    simp only [this, Bool.false_and]
    rfl
theorem tailE_yes {r : List UInt8} (h : isE r = true) : ∃ c t, r = c :: t ∧ PF.tailE r = PF.okX t := by
  cases r with
  | nil => cases h
  | cons c t =>
    refine ⟨c, t, rfl, ?_⟩
    unfold PF.tailE
    have : (decide (c = 101) || decide (c = 69)) = true := h
    simp only [this, Bool.true_and]
/-- Behind the mantissa / behind all. -/
def AtM (l : List UInt8) (R : Bool) (w : World) (v : Value) (w' : World) : Prop := ∃ p : Nat, v = .int .i64 (p : Int) ∧ p ≤ l.length ∧ PF.tailE (l.drop p) = R ∧ w = w'
def AtS (l : List UInt8) (R : Bool) (w : World) (v : Value) (w' : World) : Prop := ∃ p : Nat, v = .int .i64 (p : Int) ∧ p ≤ l.length ∧ PF.okD (l.drop p) = R ∧ w = w'
def AtE (l : List UInt8) (R : Bool) (w : World) (v : Value) (w' : World) : Prop := ∃ p : Nat, v = .int .i64 (p : Int) ∧ p ≤ l.length ∧ (l.drop p).isEmpty = R ∧ w = w'
set_option maxHeartbeats 8000000 in
theorem isFloat53 (l : List UInt8) (hl : l.length ≤ 281474976710656) (w : World) :
    Calls Tryz.prog 53 #[.string (bs l)] w fun e w' => e = .returned (.bool (PF.decB l)) ∧ w = w' := by
  obtain ⟨R, hR⟩ : ∃ R, PF.decB l = R := ⟨_, rfl⟩
  have hdec : (!((PF.body l).takeWhile PF.isDig).isEmpty && PF.tailM ((PF.body l).dropWhile PF.isDig) && decide (l.length ≤ 400)) = R := by
    rw [← hR]
    unfold PF.decB
    rw [PF.okM_parts]
  rw [hR]
  obtain ⟨hp0, hp0l⟩ := p0_drop l
  rw [← hp0, ← drop_tw, tw_empty] at hdec
  have MD := Lib.hid (fun i hi => digits79 l i hl hi)
  have HNEG := Lib.hid (isNeg_head l)
  obtain ⟨q0, hq0⟩ : ∃ q, p0 l = q := ⟨_, rfl⟩
  have HQ0 : Hid ((if PF.isNeg l then 1 else 0) = q0) := Lib.hid hq0
  rw [hq0] at hdec hp0l
  have HDEC := Lib.hid hdec
  have HSZ := Lib.hid (bs_size l)
  clear hdec hR hp0 hq0
  go_enter Tryz.func53, Tryz.ntmps53
  obtain ⟨bn, hbn⟩ : ∃ b, PF.isNeg l = b := ⟨_, rfl⟩
  rw [hbn] at HQ0 HNEG
  clear hbn
  go_upto_region 2 with (fail)
  go_cut [14] from 5 to 14 (fun v w' => v = .bool bn ∧ w = w')
  case first =>
    rcases list_cases l with e | ⟨c, t, e⟩
    · have h0 : (bs l).size = 0 := by rw [bs_size, e]; rfl
      have h0z : ¬((0 : Int) < ((bs l).size : Int)) := by omega
      have hq : bn = false := by rw [HNEG.out, e]; rfl
      subst hq
      clear e h0
      go_wp2_with fail
      go_meet
      case rel => exact ⟨rfl, rfl⟩
    · obtain ⟨hlt, hg, hem, h0i, h1i, htl⟩ := bs_head e
      by_cases h45 : c = 45
      · have c45 : ((c.toNat : Int) == 45) = true := byte_eq c 45 (by decide) h45
        have hq : bn = true := by rw [HNEG.out, e, h45]; rfl
        subst hq
        clear e htl h45
        go_wp2_with fail
        go_meet
        case rel => exact ⟨rfl, rfl⟩
      · have c45 : ((c.toNat : Int) == 45) = false := byte_ne c 45 (by decide) h45
        have hq : bn = false := by rw [HNEG.out, e]; simp [headIs, h45]
        subst hq
        clear e htl h45
        go_wp2_with fail
        go_meet
        case rel => exact ⟨rfl, rfl⟩
  case rest =>
   obtain ⟨rfl, rfl⟩ := hcut
   go_upto_if 14 with (fail)
   go_cut [3] from 15 to 16 (fun v w' => v = .int .i64 (q0 : Int) ∧ w = w')
   case first =>
    cases bn with
    | true =>
      have hq : q0 = 1 := HQ0.out.symm
      subst hq
      go_wp2_with fail
      go_meet
      case rel => exact ⟨rfl, rfl⟩
    | false =>
      have hq : q0 = 0 := HQ0.out.symm
      subst hq
      go_wp2_with fail
      go_meet
      case rel => exact ⟨rfl, rfl⟩
   case rest =>
    obtain ⟨rfl, rfl⟩ := hcut
    have htl := tw_le l q0 hp0l
    obtain ⟨n, hn⟩ : ∃ n, tw l q0 = n := ⟨_, rfl⟩
    have M := Lib.hid (MD.out q0 hp0l w)
    rw [hn] at htl HDEC M
    obtain ⟨q, hq⟩ : ∃ q, q0 + n = q := ⟨_, rfl⟩
    rw [hq] at htl HDEC M
    go_wp2_with fail
    refine M.out.mono ?_
    rintro e w' ⟨rfl, rfl⟩
    by_cases hq1 : q = q0
    · have hqz : ((q : Int) == (q0 : Int)) = true := by simp; omega
      obtain rfl : false = R := by rw [← HDEC.out]; rw [show n = 0 by omega]; rfl
      clear hq1 hq
      go_wp2_with fail
      go_ret
      exact ⟨rfl, rfl⟩
    · have hqz : ((q : Int) == (q0 : Int)) = false := by rw [beq_eq_false_iff_ne]; omega
      by_cases h400 : 400 < l.length
      · have h400z : (400 : Int) < ((bs l).size : Int) := by have := HSZ.out; omega
        obtain rfl : false = R := by rw [← HDEC.out]; simp; omega
        clear hq1 hq
        go_wp2_with fail
        go_ret
        exact ⟨rfl, rfl⟩
      · have h400z : ¬((400 : Int) < ((bs l).size : Int)) := by have := HSZ.out; omega
        have hm : PF.tailM (l.drop q) = R := by
          rw [← HDEC.out]
          have : ¬(n = 0) := by omega
          have h4 : l.length ≤ 400 := by omega
          simp [this, h4]
        have HM := Lib.hid hm
        clear HDEC hm hq1 hq hn
        obtain ⟨b46, hb46⟩ : ∃ b, headIs 46 (l.drop q) = b := ⟨_, rfl⟩
        have H46 := Lib.hid hb46
        clear hb46
        go_upto_region 8 with (fail)
        go_cut [38] from 29 to 38 (fun v w' => v = .bool b46 ∧ w = w')
        case first =>
          have h46 := H46.out
          rcases list_cases (l.drop q) with e | ⟨c, t, e⟩
          · have h1 := (at_nil htl e).1
            rw [e] at h46
            obtain rfl : false = b46 := h46
            clear e
            go_wp2_with fail
            go_meet
            case rel => exact ⟨rfl, rfl⟩
          · obtain ⟨hlt, hg, hz, hd, hk1⟩ := at_cons e
            rw [e] at h46
            clear e hd
            by_cases hc : c = 46
            · have c46 : ((c.toNat : Int) == 46) = true := byte_eq c 46 (by decide) hc
              obtain rfl : true = b46 := by rw [← h46, hc]; rfl
              clear h46 hc
              go_wp2_with fail
              go_meet
              case rel => exact ⟨rfl, rfl⟩
            · have c46 : ((c.toNat : Int) == 46) = false := byte_ne c 46 (by decide) hc
              obtain rfl : false = b46 := by rw [← h46]; simp [headIs, hc]
              clear h46 hc
              go_wp2_with fail
              go_meet
              case rel => exact ⟨rfl, rfl⟩
        case rest =>
         obtain ⟨rfl, rfl⟩ := hcut
         go_upto_if 38 with (fail)
         go_cut [3, 4] from 39 to 47 (fun v z w' => (∃ y : Int, z = .int .i64 y) ∧ AtM l R w v w')
         case first =>
          cases b46 with
          | true =>
            obtain ⟨t, e⟩ := head_yes H46.out
            obtain ⟨hlt, hg, hz, hd, hk1⟩ := at_cons e
            have hm := HM.out
            rw [e] at hm
            have hm2 : (!(t.takeWhile PF.isDig).isEmpty && PF.tailE (t.dropWhile PF.isDig)) = R := hm
            rw [← hd, ← drop_tw, tw_empty] at hm2
            have htl2 := tw_le l (q + 1) hk1
            have M := Lib.hid (MD.out (q + 1) hk1 w)
            obtain ⟨n2, hn2⟩ : ∃ n, tw l (q + 1) = n := ⟨_, rfl⟩
            rw [hn2] at hm2 htl2 M
            obtain ⟨q2, hq2⟩ : ∃ q2, q + 1 + n2 = q2 := ⟨_, rfl⟩
            rw [hq2] at hm2 htl2 M
            have HM2 := Lib.hid hm2
            have HQ2 := Lib.hid hq2
            clear hm hm2 hn2 e hd hq2
            simp only [Int.natCast_add, Int.cast_ofNat_Int] at M
            go_wp2_with fail
            refine M.out.mono ?_
            rintro e w' ⟨rfl, rfl⟩
            have hq2 := HQ2.out
            by_cases hnz : n2 = 0
            · have hqz : ((q2 : Int) == (q : Int) + 1) = true := by simp; omega
              obtain rfl : false = R := by rw [← HM2.out, hnz]; rfl
              clear hnz hq2
              go_wp2_with fail
              go_ret
              exact ⟨rfl, rfl⟩
            · have hqz : ((q2 : Int) == (q : Int) + 1) = false := by rw [beq_eq_false_iff_ne]; omega
              have HM3 : Hid (PF.tailE (l.drop q2) = R) := Lib.hid (by rw [← HM2.out]; simp [hnz])
              clear hnz hq2
              go_wp2_with fail
              go_meet
              case rel => exact ⟨⟨_, rfl⟩, q2, rfl, htl2, HM3.out, rfl⟩
          | false =>
            have HM2 : Hid (PF.tailE (l.drop q) = R) := Lib.hid (by rw [← HM.out, tailM_no H46.out])
            go_wp2_with fail
            go_meet
            case rel => exact ⟨⟨_, rfl⟩, q, rfl, htl, HM2.out, rfl⟩
         case rest =>
          clear HM H46
          obtain ⟨⟨y, rfl⟩, p, rfl, hp, hr, rfl⟩ := hcut
          have HR := Lib.hid hr
          obtain ⟨bE, hbE⟩ : ∃ b, isE (l.drop p) = b := ⟨_, rfl⟩
          have HBE := Lib.hid hbE
          clear hr hbE
          go_upto_region 13 with (fail)
          go_cut [63] from 48 to 63 (fun v w' => v = .bool bE ∧ w = w')
          case first =>
            have hbe := HBE.out
            rcases list_cases (l.drop p) with e | ⟨c, t, e⟩
            · have h1 := (at_nil hp e).1
              rw [e] at hbe
              obtain rfl : false = bE := hbe
              clear e
              go_wp2_with fail
              go_meet
              case rel => exact ⟨rfl, rfl⟩
            · obtain ⟨hlt, hg, hz, hd, hk1⟩ := at_cons e
              rw [e] at hbe
              clear e hd
              by_cases hc : c = 101
              · have c1 : ((c.toNat : Int) == 101) = true := byte_eq c 101 (by decide) hc
                obtain rfl : true = bE := by rw [← hbe, hc]; rfl
                clear hbe hc
                go_wp2_with fail
                go_meet
                case rel => exact ⟨rfl, rfl⟩
              · have c1 : ((c.toNat : Int) == 101) = false := byte_ne c 101 (by decide) hc
                by_cases hc2 : c = 69
                · have c2 : ((c.toNat : Int) == 69) = true := byte_eq c 69 (by decide) hc2
                  obtain rfl : true = bE := by rw [← hbe, hc2]; rfl
                  clear hbe hc hc2
                  go_wp2_with fail
                  go_meet
                  case rel => exact ⟨rfl, rfl⟩
                · have c2 : ((c.toNat : Int) == 69) = false := byte_ne c 69 (by decide) hc2
                  obtain rfl : false = bE := by rw [← hbe]; simp [isE, hc, hc2]
                  clear hbe hc hc2
                  go_wp2_with fail
                  go_meet
                  case rel => exact ⟨rfl, rfl⟩
          case rest =>
           obtain ⟨rfl, rfl⟩ := hcut
           go_upto_if 63 with (fail)
           go_cut [3, 4] from 64 to 90 (fun v z w' => (∃ y : Int, z = .int .i64 y) ∧ AtE l R w v w')
           case first =>
            cases bE with
            | false =>
              have HE2 : Hid ((l.drop p).isEmpty = R) := Lib.hid (by rw [← HR.out, tailE_no HBE.out])
              go_wp2_with fail
              go_meet
              case rel => exact ⟨⟨_, rfl⟩, p, rfl, hp, HE2.out, rfl⟩
            | true =>
              obtain ⟨c, t, e, hte⟩ := tailE_yes HBE.out
              obtain ⟨hlt, hg, hz, hd, hk1⟩ := at_cons e
              rw [hte, ← hd] at HR
              obtain ⟨bS, hbS⟩ : ∃ b, isS (l.drop (p + 1)) = b := ⟨_, rfl⟩
              have HBS := Lib.hid hbS
              clear e hte hd hbS
              obtain ⟨p1, hp1⟩ : ∃ p1, p + 1 = p1 := ⟨_, rfl⟩
              have hp1z : (p : Int) + 1 = (p1 : Int) := by omega
              rw [hp1] at HR HBS hk1
              have hp1s : (p1 : Int) ≤ 281474976710656 := by omega
              clear hp1
              go_upto_region 15 with (fail)
              go_cut [81] from 66 to 81 (fun v w' => v = .bool bS ∧ w = w')
              case first =>
                have hbs := HBS.out
                rcases list_cases (l.drop p1) with e | ⟨c, t, e⟩
                · have h1 := (at_nil hk1 e).1
                  rw [e] at hbs
                  obtain rfl : false = bS := hbs
                  clear e
                  go_wp2_with fail
                  go_meet
                  case rel => exact ⟨rfl, rfl⟩
                · obtain ⟨hlt, hg, hz, hd, hk1⟩ := at_cons e
                  rw [e] at hbs
                  clear e hd
                  by_cases hc : c = 43
                  · have c1 : ((c.toNat : Int) == 43) = true := byte_eq c 43 (by decide) hc
                    obtain rfl : true = bS := by rw [← hbs, hc]; rfl
                    clear hbs hc
                    go_wp2_with fail
                    go_meet
                    case rel => exact ⟨rfl, rfl⟩
                  · have c1 : ((c.toNat : Int) == 43) = false := byte_ne c 43 (by decide) hc
                    by_cases hc2 : c = 45
                    · have c2 : ((c.toNat : Int) == 45) = true := byte_eq c 45 (by decide) hc2
                      obtain rfl : true = bS := by rw [← hbs, hc2]; rfl
                      clear hbs hc hc2
                      go_wp2_with fail
                      go_meet
                      case rel => exact ⟨rfl, rfl⟩
                    · have c2 : ((c.toNat : Int) == 45) = false := byte_ne c 45 (by decide) hc2
                      obtain rfl : false = bS := by rw [← hbs]; simp [isS, hc, hc2]
                      clear hbs hc hc2
                      go_wp2_with fail
                      go_meet
                      case rel => exact ⟨rfl, rfl⟩
              case rest =>
                obtain ⟨rfl, rfl⟩ := hcut
                go_upto_if 81 with (fail)
                go_cut [3] from 82 to 83 (fun v w' => AtS l R w v w')
                case first =>
                  cases bS with
                  | false =>
                    have HS2 : Hid (PF.okD (l.drop p1) = R) := Lib.hid (by rw [← HR.out, okX_strip, strip_no HBS.out])
                    go_wp2_with fail
                    go_meet
                    case rel => exact ⟨p1, rfl, hk1, HS2.out, rfl⟩
                  | true =>
                    obtain ⟨d, u, e, hst⟩ := strip_yes HBS.out
                    obtain ⟨hlt, hg, hz, hd, hk1⟩ := at_cons e
                    have HS2 : Hid (PF.okD (l.drop (p1 + 1)) = R) := Lib.hid (by rw [← HR.out, okX_strip, hst, hd])
                    clear e hd hst
                    go_wp2_with fail
                    go_meet
                    case rel => exact ⟨p1 + 1, rfl, hk1, HS2.out, rfl⟩
                case rest =>
                  obtain ⟨p2, rfl, hp2, hok, rfl⟩ := hcut
                  rw [okD_parts, ← drop_tw, tw_empty] at hok
                  have htl2 := tw_le l p2 hp2
                  have M := Lib.hid (MD.out p2 hp2 w)
                  obtain ⟨n2, hn2⟩ : ∃ n, tw l p2 = n := ⟨_, rfl⟩
                  rw [hn2] at hok htl2 M
                  obtain ⟨q2, hq2⟩ : ∃ q2, p2 + n2 = q2 := ⟨_, rfl⟩
                  rw [hq2] at hok htl2 M
                  have HOK := Lib.hid hok
                  clear hok hn2
                  go_wp2_with fail
                  refine M.out.mono ?_
                  rintro e w' ⟨rfl, rfl⟩
                  by_cases hnz : n2 = 0
                  · have hqz : ((q2 : Int) == (p2 : Int)) = true := by simp; omega
                    obtain rfl : false = R := by rw [← HOK.out, hnz]; rfl
                    clear hnz hq2
                    go_wp2_with fail
                    go_ret
                    exact ⟨rfl, rfl⟩
                  · have hqz : ((q2 : Int) == (p2 : Int)) = false := by rw [beq_eq_false_iff_ne]; omega
                    have HM3 : Hid ((l.drop q2).isEmpty = R) := Lib.hid (by rw [← HOK.out]; simp [hnz])
                    clear hnz hq2
                    go_wp2_with fail
                    go_meet
                    case rel => exact ⟨⟨_, rfl⟩, q2, rfl, htl2, HM3.out, rfl⟩
           case rest =>
            obtain ⟨⟨y, rfl⟩, p, rfl, hp, hr, rfl⟩ := hcut
            rcases list_cases (l.drop p) with e | ⟨c, t, e⟩
            · have h2 := (at_nil hp e).2
              obtain rfl : true = R := by rw [← hr, e]; rfl
              have hz : ((p : Int) == ((bs l).size : Int)) = true := by simp; omega
              clear e hr h2
              go_wp2_with fail
              go_ret
              exact ⟨rfl, rfl⟩
            · obtain ⟨hlt, hg, hz, hd, hk1⟩ := at_cons e
              obtain rfl : false = R := by rw [← hr, e]; rfl
              have hz : ((p : Int) == ((bs l).size : Int)) = false := by rw [beq_eq_false_iff_ne]; omega
              clear e hd hr
              go_wp2_with fail
              go_ret
              exact ⟨rfl, rfl⟩
end Go.Proofs.YtagiddbfhlokcaaGreatDoor
/- The other package's in and unquoted. Condition: the text's length. -/
namespace Go.Proofs.YtagiddbfhlokcaaGreatDoor
open Go.RowKit
set_option maxRecDepth 100000
theorem in51 (L : List (List UInt8)) (l : List UInt8) (g : Nat) (w : World) (hL : ∀ k (h : k < L.length), w.cell? ⟨g, k, none⟩ = some (.string (bs L[k]))) (hn : L.length ≤ 1000) :
    Calls Tryz.prog 51 #[.slice (some ⟨g, 0, none⟩) L.length L.length, .string (bs l)] w fun e w' => e = .returned (.bool (decide (l ∈ L))) ∧ w = w' := by
  obtain ⟨b, hb⟩ : ∃ b, decide (l ∈ L) = b := ⟨_, rfl⟩
  rw [hb]
  have HL := Lib.hid hL
  clear hL
  obtain ⟨n, hnn⟩ : ∃ n, L.length = n := ⟨_, rfl⟩
  have HN := Lib.hid hnn
  rw [hnn] at hn ⊢
  clear hnn
  go_enter Tryz.func51, Tryz.ntmps51
  go_wp2
  go_loopw [8] (fun v wr => ∃ k : Nat, v = .int .i64 (k : Int) ∧ k ≤ n ∧ decide (l ∈ L.drop k) = b ∧ w = wr) (fun v _ => match v with | .int _ k => n - k.toNat | _ => 0)
  case atStart => exact ⟨0, rfl, by omega, hb, rfl⟩
  case round =>
    obtain ⟨k, rfl, hk, hkk, rfl⟩ := hrel
    have HKK := Lib.hid hkk
    clear hkk
    by_cases hkn : k < n
    · have hkz : (k : Int) < (n : Int) := by omega
      have hkL : k < L.length := by rw [HN.out]; exact hkn
      have c0 := HL.out k hkL
      have hd := List.drop_eq_getElem_cons hkL
      obtain ⟨u, hu⟩ : ∃ u, L[k] = u := ⟨_, rfl⟩
      rw [hu] at c0 hd
      have HD := Lib.hid hd
      clear hd hu hkL
      by_cases hul : u = l
      · have ht : ((bs u).toList == (bs l).toList) = true := by rw [hul]; simp
        obtain rfl : true = b := by rw [← HKK.out, HD.out, hul]; simp
        clear hul
        go_wp2_with fail
        go_ret
        exact ⟨rfl, rfl⟩
      · have ht : ((bs u).toList == (bs l).toList) = false := by rw [bs_toList, bs_toList, beq_eq_false_iff_ne]; exact hul
        have HK2 : Hid (decide (l ∈ L.drop (k + 1)) = b) := Lib.hid (by rw [← HKK.out, HD.out]; simp [Ne.symm hul])
        clear hul
        go_wp2_with fail
        go_roundw
        case rel => exact ⟨k + 1, rfl, by omega, HK2.out, trivial⟩
        case measure => simp; omega
    · have hkz : ¬((k : Int) < (n : Int)) := by omega
      obtain rfl : false = b := by rw [← HKK.out, List.drop_of_length_le (by rw [HN.out]; omega)]; simp
      go_wp2_with fail
      go_ret
      exact ⟨rfl, rfl⟩
theorem info5c : (Tryz.prog.info? 5).map (fun i => (i.zero, i.size, i.bytes)) = some (some (.int .u8 0), 1, 1) := by kernel_rfl
theorem one_cell (w : World) (v : Value) : ∀ j u, [v][j]? = some u → (w.alloc (.cells #[v] 5 (0, 0))).cell? ((⟨w.heap.size, 0, none⟩ : Addr).add j) = some u := by
  intro j u hj
  match j, hj with
  | 0, hj => simp at hj; subst hj; simp [Addr.add]
theorem conv_bytes {w : World} {B : Nat} {v : Value} {l : List UInt8} (h : w.ownsRow B 5 1 v l.length (Lib.byteCells l)) : (convert 59 9 v).run Tryz.prog w = .ok (.string (bs l)) w := by
  rcases h.2 with ⟨rfl, h0⟩ | ⟨g, cap, cur, rfl, _, hg, _, _, _, htk⟩
  · obtain rfl := List.eq_nil_of_length_eq_zero h0
    exact Lib.run_convert_nil_bytes w 59 9 5 0 Tryz.underlying59 Tryz.underlying5 Tryz.underlying9
  · rw [Nat.mul_one] at htk
    exact run_convert_bytes_back w 59 9 5 ⟨g, 0, none⟩ cap l Tryz.underlying59 Tryz.underlying5 Tryz.underlying9 (Lib.bytes_of_row hg htk)
theorem unq_last : ∀ (r : List UInt8), PF.unq r ≠ none → ∃ m, r = m ++ [34]
  | [], h => absurd rfl h
  | [c], h => by
    unfold PF.unq at h
    split at h
    · rename_i hc; exact ⟨[], by rw [hc]; rfl⟩
    · exact absurd rfl h
  | c :: d :: r, h => by
    unfold PF.unq at h
    split at h
    · exact absurd rfl h
    · split at h
      · split at h
        · obtain ⟨m, rfl⟩ := unq_last r (by intro e; rw [e] at h; exact h rfl)
          exact ⟨c :: d :: m, rfl⟩
        · split at h
          · obtain ⟨m, rfl⟩ := unq_last r (by intro e; rw [e] at h; exact h rfl)
            exact ⟨c :: d :: m, rfl⟩
          · exact absurd rfl h
      · obtain ⟨m, hm⟩ := unq_last (d :: r) (by intro e; rw [e] at h; exact h rfl)
        exact ⟨c :: m, by rw [hm]; rfl⟩
/-- What stands between quotes, as the result. -/
def uqR (o : Option (List UInt8)) : Value := match o with
  | none => .tuple #[.string ⟨#[]⟩, .bool false]
  | some t => .tuple #[.string (bs t), .bool true]
def InUq (r m : List UInt8) (w : World) (v i : Value) (wr : World) : Prop :=
  ∃ (k : Nat) (l : List UInt8), i = .int .i64 (k : Int) ∧ k ≤ m.length ∧ PF.unq r = (PF.unq (m.drop k ++ [34])).map (l ++ ·) ∧ l.length ≤ k ∧ wr.ownsRow w.heap.size 5 1 v l.length (Lib.byteCells l) ∧ Below w.heap.size w wr
def up (n : Nat) : Value → Nat
  | .int _ k => n - k.toNat
  | _ => 0
theorem mid_text (a : UInt8) (m : List UInt8) (c : UInt8) : (bs (a :: (m ++ [c]))).extract 1 (m.length + 1) = bs m := by
  apply ByteArray.ext
  apply Array.toList_inj.1
  rw [Lib.extract_data, bs_list, bs_list]
  simp
set_option maxHeartbeats 4000000 in
theorem unquoted52 (r : List UInt8) (hr : r.length ≤ 140737488355327) (w : World) : Calls Tryz.prog 52 #[.string (bs (34 :: r))] w fun e w' => e = .returned (uqR (PF.unq r)) ∧ Below w.heap.size w w' := by
  obtain ⟨i0, hi, hz0, hz1, hz2⟩ := info_parts info5c
  obtain ⟨hsz0, hg0, hem0, h0i0, h1i0, htl0⟩ := bs_head (r := 34 :: r) rfl
  have hsl : (bs (34 :: r)).size = r.length + 1 := by rw [bs_size]; rfl
  have HSL := Lib.hid hsl
  rcases List.eq_nil_or_concat r with e | ⟨m, c, e⟩
  · have h2 : ((bs (34 :: r)).size : Int) < 2 := by rw [e] at hsl ⊢; simp at hsl; omega
    have HU : Hid (PF.unq r = none) := Lib.hid (by rw [e]; rfl)
    clear e hsl
    go_enter Tryz.func52, Tryz.ntmps52
    go_wp2_with fail
    go_ret2
    exact ⟨by rw [HU.out]; rfl, Below.refl _ _⟩
  · rw [List.concat_eq_append] at e
    have hml : r.length = m.length + 1 := by rw [e]; simp
    have h2 : ¬((bs (34 :: r)).size : Int) < 2 := by omega
    have hli : ((bs (34 :: r)).size : Int) - 1 = ((m.length + 1 : Nat) : Int) := by omega
    have hlt : m.length + 1 < (bs (34 :: r)).size := by omega
    have hlast : (bs (34 :: r))[m.length + 1] = c := by
      rw [bs_get]
      simp [e]
    have hmid := mid_text 34 m c
    rw [← e] at hmid
    have hltz : ((m.length + 1 : Nat) : Int) < ((bs (34 :: r)).size : Int) := by omega
    have hmlz : (1 : Int) ≤ ((m.length + 1 : Nat) : Int) := by omega
    have hlez : ((m.length + 1 : Nat) : Int) ≤ ((bs (34 :: r)).size : Int) := by omega
    obtain ⟨L, hL⟩ : ∃ L, bs (34 :: r) = L := ⟨_, rfl⟩
    obtain ⟨n, hn⟩ : ∃ n, m.length + 1 = n := ⟨_, rfl⟩
    have HE := Lib.hid e
    have HN := Lib.hid hn
    simp only [hL, hn] at *
    clear e hsl
    by_cases hc : c = 34
    · have HUM : Hid (r = m ++ [34]) := Lib.hid (by rw [HE.out, hc])
      have c34 : ((c.toNat : Int) == 34) = true := byte_eq c 34 (by decide) hc
      clear hc
      go_enter Tryz.func52, Tryz.ntmps52
      go_wp2_with fail
      clear hlast hmid hltz hmlz hlez hlt hli hg0 htl0 hem0 h0i0 h1i0 hsz0 c34
      go_loopw [4, 5] (fun v i wr => InUq r m w v i wr) (fun _ i _ => up m.length i)
      case atStart => exact ⟨0, [], rfl, by omega, by rw [HUM.out, List.drop_zero]; cases PF.unq (m ++ [34]) <;> rfl, by simp, World.ownsRow_nil _ _ _ _, Below.refl _ _⟩
      case round =>
        obtain ⟨k, l, rfl, hk, hun, hlk, hown, hb⟩ := hrel
        have HOWN := Lib.hid hown
        have HB := Lib.hid hb
        have HUN := Lib.hid hun
        clear hown hb hun
        rcases list_cases (m.drop k) with e | ⟨c, t, e⟩
        · have h1 := (at_nil hk e).1
          have HU2 : Hid (PF.unq r = some l) := Lib.hid (by rw [HUN.out, e]; simp [PF.unq])
          have HCV := Lib.hid (conv_bytes HOWN.out)
          have hcv := HCV.out
          clear e
          go_wp2_with fail
          go_ret2
          exact ⟨by rw [HU2.out]; rfl, HB.out⟩
        · obtain ⟨hlt, hg, hz, hd, hk1⟩ := at_cons e
          rw [e] at HUN
          by_cases h34 : c = 34
          · have c34 : ((c.toNat : Int) == 34) = true := byte_eq c 34 (by decide) h34
            have HU2 : Hid (PF.unq r = none) := Lib.hid (by
              rw [HUN.out, h34]
              cases t with
              | nil => rfl
              | cons d u => rw [List.cons_append, List.cons_append, unq_close]; rfl)
            clear e hd h34
            go_wp2_with fail
            go_ret2
            exact ⟨by rw [HU2.out]; rfl, HB.out⟩
          · have c34 : ((c.toNat : Int) == 34) = false := byte_ne c 34 (by decide) h34
            by_cases h10 : c = 10
            · have c10 : ((c.toNat : Int) == 10) = true := byte_eq c 10 (by decide) h10
              have HU2 : Hid (PF.unq r = none) := Lib.hid (by rw [HUN.out, h10, List.cons_append, unq_line]; rfl)
              clear e hd h34 h10
              go_wp2_with fail
              go_ret2
              exact ⟨by rw [HU2.out]; rfl, HB.out⟩
            · have c10 : ((c.toNat : Int) == 10) = false := byte_ne c 10 (by decide) h10
              by_cases h92 : c = 92
              · have c92 : ((c.toNat : Int) == 92) = true := byte_eq c 92 (by decide) h92
                rw [h92] at HUN
                rcases list_cases t with e2 | ⟨d, u, e2⟩
                · have hk1e : m.drop (k + 1) = [] := by rw [hd, e2]
                  have h2 := (at_nil hk1 hk1e).1
                  have h2z : ((bs m).size : Int) ≤ (k : Int) + 1 := by omega
                  have HU2 : Hid (PF.unq r = none) := Lib.hid (by rw [HUN.out, e2]; rfl)
                  clear e hd h34 h10 h92 e2 hk1e h2
                  go_wp2_with fail
                  go_ret2
                  exact ⟨by rw [HU2.out]; rfl, HB.out⟩
                · have hk1e : m.drop (k + 1) = d :: u := by rw [hd, e2]
                  obtain ⟨k1, hk1n⟩ : ∃ k1, k + 1 = k1 := ⟨_, rfl⟩
                  have hk1z : (k : Int) + 1 = (k1 : Int) := by omega
                  rw [hk1n] at hk1e
                  obtain ⟨hlt2, hg2, hz2', hd2, hk2⟩ := at_cons hk1e
                  rw [e2] at HUN
                  have hnot : ¬((bs m).size : Int) ≤ (k1 : Int) := by omega
                  have hlk1 : l.length ≤ k1 := by omega
                  have hkk1 : k < k1 := by omega
                  have hunq := unq_esc d (u ++ [34])
                  clear e hd h34 h10 h92 e2 hk1e hk1n
                  by_cases d34 : d = 34
                  · have HU3 : Hid (PF.unq r = ((PF.unq (m.drop (k1 + 1) ++ [34])).map (34 :: ·)).map (l ++ ·)) := Lib.hid (by rw [HUN.out, List.cons_append, List.cons_append, hunq, if_pos (.inl d34), hd2, d34])
                    clear hunq hd2 HUN
                    subst d34
                    go_wp2_with (at_builtin; refine wpList_append_own _ rfl _ _ 59 rfl w.heap.size 5 i0 (.int .u8 0) 1 1 Tryz.underlying59 hi hz0 hz1 hz2 rfl (by decide) _ _ _ rfl (HOWN.out.alloc _) ⟨wr.heap.size, 0, none⟩ 1 1 [.int .u8 34] rfl rfl (one_cell _ _) (by intro u hu; simp at hu; subst hu; rfl) (by unfold maxLen; omega) (by omega) (by have := HB.out.size; simp; omega) ?_)
                    intro v' w2 hown' hgrow _
                    have HOWN2 := Lib.hid hown'
                    have HB2 := Lib.hid ((HB.out.alloc (by have := HB.out.size; omega) _).grown hgrow (by have := HB.out.size; simp; omega) (fun j hj => (HOWN.out.lt j hj).1))
                    clear hown' hgrow
                    go_wp2_with fail
                    go_roundw
                    case rel => exact ⟨k1 + 1, l ++ [34], rfl, by omega, by rw [HU3.out, map_app], by simp; omega, by rw [byteCells_app]; simpa using HOWN2.out, HB2.out⟩
                    case measure => simp [up]; omega
                  · by_cases d92 : d = 92
                    · have HU3 : Hid (PF.unq r = ((PF.unq (m.drop (k1 + 1) ++ [34])).map (92 :: ·)).map (l ++ ·)) := Lib.hid (by rw [HUN.out, List.cons_append, List.cons_append, hunq, if_pos (.inr d92), hd2, d92])
                      clear d34 hunq hd2 HUN
                      subst d92
                      go_wp2_with (at_builtin; refine wpList_append_own _ rfl _ _ 59 rfl w.heap.size 5 i0 (.int .u8 0) 1 1 Tryz.underlying59 hi hz0 hz1 hz2 rfl (by decide) _ _ _ rfl (HOWN.out.alloc _) ⟨wr.heap.size, 0, none⟩ 1 1 [.int .u8 92] rfl rfl (one_cell _ _) (by intro u hu; simp at hu; subst hu; rfl) (by unfold maxLen; omega) (by omega) (by have := HB.out.size; simp; omega) ?_)
                      intro v' w2 hown' hgrow _
                      have HOWN2 := Lib.hid hown'
                      have HB2 := Lib.hid ((HB.out.alloc (by have := HB.out.size; omega) _).grown hgrow (by have := HB.out.size; simp; omega) (fun j hj => (HOWN.out.lt j hj).1))
                      clear hown' hgrow
                      go_wp2_with fail
                      go_roundw
                      case rel => exact ⟨k1 + 1, l ++ [92], rfl, by omega, by rw [HU3.out, map_app], by simp; omega, by rw [byteCells_app]; simpa using HOWN2.out, HB2.out⟩
                      case measure => simp [up]; omega
                    · by_cases d110 : d = 110
                      · have HU3 : Hid (PF.unq r = ((PF.unq (m.drop (k1 + 1) ++ [34])).map (10 :: ·)).map (l ++ ·)) := Lib.hid (by rw [HUN.out, List.cons_append, List.cons_append, hunq, if_neg (by simp [d34, d92]), if_pos d110, hd2])
                        clear d34 d92 hunq hd2 HUN
                        subst d110
                        go_wp2_with (at_builtin; refine wpList_append_own _ rfl _ _ 59 rfl w.heap.size 5 i0 (.int .u8 0) 1 1 Tryz.underlying59 hi hz0 hz1 hz2 rfl (by decide) _ _ _ rfl (HOWN.out.alloc _) ⟨wr.heap.size, 0, none⟩ 1 1 [.int .u8 10] rfl rfl (one_cell _ _) (by intro u hu; simp at hu; subst hu; rfl) (by unfold maxLen; omega) (by omega) (by have := HB.out.size; simp; omega) ?_)
                        intro v' w2 hown' hgrow _
                        have HOWN2 := Lib.hid hown'
                        have HB2 := Lib.hid ((HB.out.alloc (by have := HB.out.size; omega) _).grown hgrow (by have := HB.out.size; simp; omega) (fun j hj => (HOWN.out.lt j hj).1))
                        clear hown' hgrow
                        go_wp2_with fail
                        go_roundw
                        case rel => exact ⟨k1 + 1, l ++ [10], rfl, by omega, by rw [HU3.out, map_app], by simp; omega, by rw [byteCells_app]; simpa using HOWN2.out, HB2.out⟩
                        case measure => simp [up]; omega
                      · have f34 : ((d.toNat : Int) != 34) = true := by show (!((d.toNat : Int) == 34)) = true; rw [show ((d.toNat : Int) == 34) = false from byte_ne d 34 (by decide) d34]; rfl
                        have f92 : ((d.toNat : Int) != 92) = true := by show (!((d.toNat : Int) == 92)) = true; rw [show ((d.toNat : Int) == 92) = false from byte_ne d 92 (by decide) d92]; rfl
                        have f110 : ((d.toNat : Int) != 110) = true := by show (!((d.toNat : Int) == 110)) = true; rw [show ((d.toNat : Int) == 110) = false from byte_ne d 110 (by decide) d110]; rfl
                        have HU3 : Hid (PF.unq r = none) := Lib.hid (by rw [HUN.out, List.cons_append, List.cons_append, hunq, if_neg (by simp [d34, d92]), if_neg d110]; rfl)
                        clear d34 d92 d110 hunq hd2 HUN
                        go_wp2_with fail
                        go_ret2
                        exact ⟨by rw [HU3.out]; rfl, HB.out⟩
              · have c92 : ((c.toNat : Int) == 92) = false := byte_ne c 92 (by decide) h92
                have HU3 : Hid (PF.unq r = ((PF.unq (m.drop (k + 1) ++ [34])).map (c :: ·)).map (l ++ ·)) := Lib.hid (by rw [HUN.out, List.cons_append, unq_plain c _ h34 h10 h92, hd])
                clear e hd h34 h10 h92
                go_wp2_with (at_builtin; refine wpList_append_own _ rfl _ _ 59 rfl w.heap.size 5 i0 (.int .u8 0) 1 1 Tryz.underlying59 hi hz0 hz1 hz2 rfl (by decide) _ _ _ rfl (HOWN.out.alloc _) ⟨wr.heap.size, 0, none⟩ 1 1 [.int .u8 c.toNat] rfl rfl (one_cell _ _) (by intro u hu; simp at hu; subst hu; rfl) (by unfold maxLen; omega) (by omega) (by have := HB.out.size; simp; omega) ?_)
                intro v' w2 hown' hgrow _
                have HOWN2 := Lib.hid hown'
                have HB2 := Lib.hid ((HB.out.alloc (by have := HB.out.size; omega) _).grown hgrow (by have := HB.out.size; simp; omega) (fun j hj => (HOWN.out.lt j hj).1))
                clear hown' hgrow
                go_wp2_with fail
                go_roundw
                case rel => exact ⟨k + 1, l ++ [c], rfl, by omega, by rw [HU3.out, map_app], by simp; omega, by rw [byteCells_app]; simpa using HOWN2.out, HB2.out⟩
                case measure => simp [up]; omega
    · have HU : Hid (PF.unq r = none) := Lib.hid (by
        by_cases h : PF.unq r = none
        · exact h
        · obtain ⟨m2, e2⟩ := unq_last r h
          rw [HE.out] at e2
          have := congrArg List.getLast? e2
          simp at this
          exact absurd this hc)
      have c34 : ((c.toNat : Int) == 34) = false := byte_ne c 34 (by decide) hc
      clear hc
      go_enter Tryz.func52, Tryz.ntmps52
      go_wp2_with fail
      go_ret2
      exact ⟨by rw [HU.out]; rfl, Below.refl _ _⟩
end Go.Proofs.YtagiddbfhlokcaaGreatDoor
/- The other package's Whole, Int, Parse. Condition: the text's length; strconv's tables. -/
namespace Go.Proofs.YtagiddbfhlokcaaGreatDoor
open Go.RowKit
set_option maxRecDepth 100000
/-- A number behind perhaps a sign, in 64 bits. -/
def wholeP (l : List UInt8) : Int × Bool :=
  if PF.isNeg l then (if PF.numD (PF.body l) ≤ 9223372036854775808 then (-(PF.numD (PF.body l) : Int), true) else (0, false))
  else (if PF.numD (PF.body l) < 9223372036854775808 then ((PF.numD (PF.body l) : Int), true) else (0, false))
def InWh (b : List UInt8) (lim : Nat) (w : World) (v i : Value) (wr : World) : Prop :=
  ∃ k : Nat, i = .int .i64 (k : Int) ∧ k ≤ b.length ∧ v = .int .u64 (PF.numD (b.take k) : Int) ∧ PF.numD (b.take k) ≤ lim ∧ w = wr
theorem take_next {b : List UInt8} {k : Nat} {c : UInt8} {t : List UInt8} (e : b.drop k = c :: t) : b.take (k + 1) = b.take k ++ [c] := by
  have h := (at_cons e).choose_spec.2.2.2
  have hk : k < b.length := by omega
  have h2 := List.drop_eq_getElem_cons hk
  rw [e] at h2
  injection h2 with h3 _
  rw [List.take_add_one, List.getElem?_eq_getElem hk, ← h3]
  rfl
theorem numD_take_le (b : List UInt8) (k : Nat) : PF.numD (b.take k) ≤ PF.numD b := by
  have := PF.numD_le (b.take k) (b.drop k)
  rwa [List.take_append_drop] at this
theorem wrap_u8_dig {c : UInt8} (h : PF.isDig c = true) : IntKind.wrap .u8 ((c.toNat : Int) - 48) = ((c.toNat - 48 : Nat) : Int) := by
  obtain ⟨h1, h2⟩ := isDig_true h
  have : ((c.toNat : Int) - 48) = ((c.toNat - 48 : Nat) : Int) := by omega
  rw [this]
  obtain ⟨n, hn⟩ : ∃ n, c.toNat - 48 = n := ⟨_, rfl⟩
  have hn9 : n ≤ 9 := by omega
  rw [hn]
  simp [IntKind.wrap, IntKind.signed, IntKind.bits]
  omega
theorem wneg (n : Nat) (h : n ≤ 9223372036854775808) : wrap64 (IntKind.u64.wrap (-(n : Int))) = -(n : Int) := by
  rw [IntKind.wrap_u64]
  unfold wrap64
  omega
theorem wpos (n : Nat) (h : n < 9223372036854775808) : wrap64 (n : Int) = (n : Int) := by
  unfold wrap64
  omega
set_option maxHeartbeats 4000000 in
theorem whole80 (l : List UInt8) (hl : l.length ≤ 281474976710656) (h0 : l ≠ []) (hall : (PF.body l).all PF.isDig = true) (w : World) :
    Calls Tryz.prog 80 #[.string (bs l)] w fun e w' => e = .returned (.tuple #[.int .i64 (wholeP l).1, .bool (wholeP l).2]) ∧ w = w' := by
  obtain ⟨R, hR⟩ : ∃ R, wholeP l = R := ⟨_, rfl⟩
  rw [hR]
  obtain ⟨b, hb⟩ : ∃ b, PF.body l = b := ⟨_, rfl⟩
  obtain ⟨lim, hlim⟩ : ∃ lim : Nat, (if PF.isNeg l then 9223372036854775808 else 9223372036854775807) = lim := ⟨_, rfl⟩
  obtain ⟨bn, hbn⟩ : ∃ bn, PF.isNeg l = bn := ⟨_, rfl⟩
  have hneg := isNeg_head l
  have hbl : b.length ≤ 281474976710656 := by
    rw [← hb]
    unfold PF.body
    split
    · rename_i r; simp at hl; omega
    · exact hl
  unfold wholeP at hR
  rw [hb, hbn] at hR
  rw [hbn] at hlim hneg
  rw [hb] at hall
  have HR := Lib.hid hR
  have HALL := Lib.hid hall
  have HLIM := Lib.hid hlim
  have HB := Lib.hid hb
  have HBN := Lib.hid hbn
  have HNEG := Lib.hid hneg
  clear hR hall hlim hb hneg
  rcases list_cases l with e | ⟨c, t, e⟩
  · exact absurd e h0
  · obtain ⟨hlt, hg, hem, h0i, h1i, htl⟩ := bs_head e
    rw [e] at HNEG
    have HTB : Hid (bn = true → t = b) := Lib.hid (fun h => by rw [← HB.out, e]; have := HNEG.out; rw [h] at this; have h45 := of_decide_eq_true this.symm; rw [h45]; rfl)
    have HLB : Hid (bn = false → l = b) := Lib.hid (fun h => by rw [← HB.out]; exact (PF.body_pos (l := l) (fun r er => by rw [h] at hbn; rw [er] at hbn; cases hbn)).1.symm)
    clear e hbn h0
    go_enter Tryz.func80, Tryz.ntmps80
    have c45 : ((c.toNat : Int) == 45) = bn := by
      have h := HNEG.out
      cases bn with
      | true => exact byte_eq c 45 (by decide) (of_decide_eq_true h.symm)
      | false => exact byte_ne c 45 (by decide) (of_decide_eq_false h.symm)
    go_upto_if 12 with (fail)
    go_cut [0, 4] from 13 to 14 (fun s v w' => s = .string (bs b) ∧ v = .int .u64 (lim : Int) ∧ w = w')
    case first =>
      cases bn with
      | true =>
        obtain rfl := HTB.out rfl
        obtain rfl : 9223372036854775808 = lim := HLIM.out
        go_wp2_with fail
        go_meet
        case rel => exact ⟨rfl, rfl, rfl⟩
      | false =>
        obtain rfl : 9223372036854775807 = lim := HLIM.out
        have HLB2 := Lib.hid (HLB.out rfl)
        go_wp2_with fail
        go_meet
        case rel => exact ⟨by rw [HLB2.out], rfl, rfl⟩
    case rest =>
      obtain ⟨rfl, rfl, rfl⟩ := hcut
      have hlim : lim ≤ 9223372036854775808 := by rw [← HLIM.out]; split <;> omega
      have hlim9 : 9 ≤ lim := by rw [← HLIM.out]; split <;> omega
      clear hlt hg hem h0i h1i htl HTB HLB HNEG c45
      go_wp2_with fail
      go_loopw [6, 7] (fun v i wr => InWh b lim w v i wr) (fun _ i => fun _ => up b.length i)
      case atStart => exact ⟨0, rfl, by omega, rfl, by rw [List.take_zero]; show 0 ≤ lim; omega, rfl⟩
      case round =>
        obtain ⟨k, rfl, hk, rfl, hn, rfl⟩ := hrel
        obtain ⟨n, hnn⟩ : ∃ n, PF.numD (b.take k) = n := ⟨_, rfl⟩
        rw [hnn] at hn ⊢
        have HNN := Lib.hid hnn
        clear hnn
        rcases list_cases (b.drop k) with e | ⟨c, t, e⟩
        · have h1 := (at_nil hk e).1
          have HN2 : Hid (PF.numD b = n) := Lib.hid (by
            rw [← HNN.out]
            have := List.take_append_drop k b
            rw [e, List.append_nil] at this
            rw [this])
          clear e
          cases bn with
          | true =>
            have hlz : lim = 9223372036854775808 := HLIM.out.symm
            have hwn := wneg n (by omega)
            have hr := HR.out
            rw [HN2.out, if_pos rfl, if_pos (by omega)] at hr
            have HR2 := Lib.hid hr
            clear hr hlz
            go_wp2_with fail
            go_ret2
            exact ⟨by rw [← HR2.out]; rfl, rfl⟩
          | false =>
            have hlz : lim = 9223372036854775807 := HLIM.out.symm
            have hwn := wpos n (by omega)
            have hr := HR.out
            rw [HN2.out, if_neg (by decide), if_pos (by omega)] at hr
            have HR2 := Lib.hid hr
            clear hr hlz
            go_wp2_with fail
            go_ret2
            exact ⟨by rw [← HR2.out]; rfl, rfl⟩
        · obtain ⟨hlt, hg, hz, hd, hk1⟩ := at_cons e
          have hdg : PF.isDig c = true := by
            have := HALL.out
            rw [List.all_eq_true] at this
            exact this c (List.mem_of_mem_drop (by rw [e]; exact List.mem_cons_self))
          have hw8 := wrap_u8_dig hdg
          obtain ⟨d1, d2⟩ := isDig_true hdg
          have HT := Lib.hid (take_next e)
          obtain ⟨d, hdd⟩ : ∃ d, c.toNat - 48 = d := ⟨_, rfl⟩
          rw [hdd] at hw8
          have hd9 : d ≤ 9 := by omega
          have HN2 : Hid (PF.numD (b.take (k + 1)) = n * 10 + d) := Lib.hid (by rw [HT.out, PF.numD_snoc, HNN.out, hdd])
          clear e hd hdg hdd
          by_cases hov : lim < n * 10 + d
          · have hgt : ((lim : Int) - (d : Int)) / 10 < (n : Int) := by omega
            have HR2 : Hid ((0, false) = R) := Lib.hid (by
              have := numD_take_le b (k + 1)
              rw [HN2.out] at this
              have hl := HLIM.out
              rw [← HR.out]
              cases bn with
              | true => rw [if_pos rfl] at hl ⊢; rw [if_neg (by omega)]
              | false => rw [if_neg (by decide)] at hl ⊢; rw [if_neg (by omega)])
            clear hov
            go_wp2_with fail
            go_ret2
            exact ⟨by rw [← HR2.out]; rfl, rfl⟩
          · have hgt : ¬((lim : Int) - (d : Int)) / 10 < (n : Int) := by omega
            go_wp2_with fail
            go_roundw
            case rel => exact ⟨k + 1, rfl, hk1, by rw [HN2.out]; simp [Int.mul_comm], by rw [HN2.out]; omega, rfl⟩
            case measure => simp [up]; omega
theorem tw_body {l : List UInt8} : (PF.body l).all PF.isDig = decide (p0 l + tw l (p0 l) = l.length) := by
  obtain ⟨h1, h2⟩ := p0_drop l
  rw [← h1, all_take, ← drop_tw]
  have h3 := tw_le l (p0 l) h2
  rw [Bool.eq_iff_iff]
  simp
  omega
theorem tw_len {l : List UInt8} (h : p0 l + tw l (p0 l) = l.length) : (PF.body l).length = tw l (p0 l) := by
  obtain ⟨h1, h2⟩ := p0_drop l
  rw [← h1]
  simp
  omega
theorem intP_whole {l : List UInt8} (h1 : 1 ≤ (PF.body l).length) (h2 : (PF.body l).length ≤ 25) (h3 : (PF.body l).all PF.isDig = true) :
    PF.intP l = if (wholeP l).2 then ((wholeP l).1, 0) else (0, 3) := by
  unfold PF.intP wholeP
  rw [if_pos ⟨h1, h2, h3⟩]
  split <;> split <;> rfl
set_option maxHeartbeats 4000000 in
theorem int37 (l : List UInt8) (hl : l.length ≤ 281474976710656) (w : World) :
    Calls Tryz.prog 37 #[.string (bs l)] w fun e w' => e = .returned (.tuple #[.int .i64 (PF.intP l).1, .int .i64 (PF.intP l).2]) ∧ w = w' := by
  obtain ⟨hp0, hp0l⟩ := p0_drop l
  have hall := tw_body (l := l)
  have hlen := fun h => tw_len (l := l) h
  have hno : (PF.body l).all PF.isDig = false ∨ (PF.body l).length < 1 ∨ 25 < (PF.body l).length → PF.intP l = (0, 2) := by
    intro h
    unfold PF.intP
    rw [if_neg]
    rintro ⟨a, b, c⟩
    rcases h with h | h | h
    · rw [h] at c; cases c
    · omega
    · omega
  have MD := Lib.hid (fun i hi => digits79 l i hl hi)
  have HNEG := Lib.hid (isNeg_head l)
  obtain ⟨q0, hq0⟩ : ∃ q, p0 l = q := ⟨_, rfl⟩
  have HQ0 : Hid ((if PF.isNeg l then 1 else 0) = q0) := Lib.hid hq0
  have htl := tw_le l q0 (by rw [← hq0]; exact hp0l)
  obtain ⟨n, hn⟩ : ∃ n, tw l q0 = n := ⟨_, rfl⟩
  rw [hq0] at hall hlen hp0l
  rw [hn] at hall hlen htl
  have M := Lib.hid (MD.out q0 hp0l w)
  rw [hn] at M
  obtain ⟨q, hq⟩ : ∃ q, q0 + n = q := ⟨_, rfl⟩
  rw [hq] at hall hlen htl M
  have HALL := Lib.hid hall
  have HLEN := Lib.hid hlen
  have HNO := Lib.hid hno
  have HSZ := Lib.hid (bs_size l)
  obtain ⟨bn, hbn⟩ : ∃ b, PF.isNeg l = b := ⟨_, rfl⟩
  rw [hbn] at HQ0 HNEG
  clear hall hlen hno hbn hp0 hq0 hn
  go_enter Tryz.func37, Tryz.ntmps37
  go_upto_region 2 with (fail)
  go_cut [15] from 8 to 15 (fun v w' => v = .bool bn ∧ w = w')
  case first =>
    rcases list_cases l with e | ⟨c, t, e⟩
    · have h0 : (bs l).size = 0 := by rw [bs_size, e]; rfl
      have h0z : ¬((0 : Int) < ((bs l).size : Int)) := by omega
      have hq : bn = false := by rw [HNEG.out, e]; rfl
      subst hq
      clear e h0
      go_wp2_with fail
      go_meet
      case rel => exact ⟨rfl, rfl⟩
    · obtain ⟨hlt, hg, hem, h0i, h1i, htl⟩ := bs_head e
      by_cases h45 : c = 45
      · have c45 : ((c.toNat : Int) == 45) = true := byte_eq c 45 (by decide) h45
        have hq : bn = true := by rw [HNEG.out, e, h45]; rfl
        subst hq
        clear e htl h45
        go_wp2_with fail
        go_meet
        case rel => exact ⟨rfl, rfl⟩
      · have c45 : ((c.toNat : Int) == 45) = false := byte_ne c 45 (by decide) h45
        have hq : bn = false := by rw [HNEG.out, e]; simp [headIs, h45]
        subst hq
        clear e htl h45
        go_wp2_with fail
        go_meet
        case rel => exact ⟨rfl, rfl⟩
  case rest =>
   obtain ⟨rfl, rfl⟩ := hcut
   go_upto_if 15 with (fail)
   go_cut [4] from 16 to 16 (fun v w' => v = .int .i64 (q0 : Int) ∧ w = w')
   case first =>
    cases bn with
    | true =>
      have hqq : q0 = 1 := HQ0.out.symm
      clear M MD HALL HLEN
      subst hqq
      go_wp2_with fail
      go_meet
      case rel => exact ⟨rfl, rfl⟩
    | false =>
      have hqq : q0 = 0 := HQ0.out.symm
      clear M MD HALL HLEN
      subst hqq
      go_wp2_with fail
      go_meet
      case rel => exact ⟨rfl, rfl⟩
   case rest =>
    obtain ⟨rfl, rfl⟩ := hcut
    go_wp2_with fail
    refine M.out.mono ?_
    rintro e w' ⟨rfl, rfl⟩
    by_cases hq1 : q = q0
    · have hqz : ((q : Int) == (q0 : Int)) = true := by simp; omega
      have HI : Hid (PF.intP l = (0, 2)) := Lib.hid (HNO.out (by
        by_cases h : q = l.length
        · have := HLEN.out h; omega
        · left; rw [HALL.out]; simp [h]))
      clear hq1 hq
      go_wp2_with fail
      go_ret2
      exact ⟨by rw [HI.out]; rfl, rfl⟩
    · have hqz : ((q : Int) == (q0 : Int)) = false := by rw [beq_eq_false_iff_ne]; omega
      by_cases hql : q = l.length
      · have hqlz : ((q : Int) != ((bs l).size : Int)) = false := by rw [HSZ.out]; simp; omega
        have hbl := HLEN.out hql
        by_cases h25 : 25 < n
        · have h25z : (25 : Int) < (q : Int) - (q0 : Int) := by omega
          have HI : Hid (PF.intP l = (0, 2)) := Lib.hid (HNO.out (by omega))
          clear hq1 hq hql
          go_wp2_with fail
          go_ret2
          exact ⟨by rw [HI.out]; rfl, rfl⟩
        · have h25z : ¬(25 : Int) < (q : Int) - (q0 : Int) := by omega
          have hall : (PF.body l).all PF.isDig = true := by rw [HALL.out]; simp [hql]
          have HI := Lib.hid (intP_whole (l := l) (by omega) (by omega) hall)
          have MW := Lib.hid (whole80 l hl (by rintro rfl; simp at hql; omega) hall w)
          obtain ⟨x, hx⟩ : ∃ x, wholeP l = x := ⟨_, rfl⟩
          rw [hx] at MW HI
          obtain ⟨v, ok⟩ := x
          simp only at MW HI
          clear hx hq1 hq hql hall
          go_wp2_with fail
          refine MW.out.mono ?_
          rintro e w' ⟨rfl, rfl⟩
          cases ok with
          | true =>
            go_wp2_with fail
            go_ret2
            exact ⟨by rw [HI.out]; rfl, rfl⟩
          | false =>
            go_wp2_with fail
            go_ret2
            exact ⟨by rw [HI.out]; rfl, rfl⟩
      · have hqlz : ((q : Int) != ((bs l).size : Int)) = true := by rw [HSZ.out]; simp; omega
        have HI : Hid (PF.intP l = (0, 2)) := Lib.hid (HNO.out (by left; rw [HALL.out]; simp [hql]))
        clear hq1 hq hql
        go_wp2_with fail
        go_ret2
        exact ⟨by rw [HI.out]; rfl, rfl⟩
end Go.Proofs.YtagiddbfhlokcaaGreatDoor
/- A float less itself: nothing, where it is finite; no number, where it is not. No condition. -/
namespace PF
open Ieee
theorem sum_self (s : Bool) (m : Nat) (i : Int) : (Datum.number s m i).sum (Datum.number s m i).opposite = some (.number false 0 i) := by
  unfold Datum.opposite Datum.sum
  simp only [Int.min_self, Int.sub_self]
  have h : signed s m (0 : Int).toNat + signed (!s) m (0 : Int).toNat = 0 := by
    unfold signed
    cases s <;> simp <;> omega
  rw [h]
  cases s <;> simp
theorem sub_fin {x : Nat} (h : Fin x) : double.sub x x = some 0 := by
  have hs : double.signWeight = 9223372036854775808 := rfl
  have hl : double.leastPlace = -1074 := by decide
  have hb : double.binade = 4503599627370496 := rfl
  have hi : double.infRung = 9218868437227405312 := rfl
  unfold Fin at h
  have hn : ∃ s m i, double.read x = .number s m i := by
    unfold Format.read
    simp only [hs, hl, hb, hi]
    split
    · exact ⟨_, _, _, rfl⟩
    · exact ⟨_, _, _, rfl⟩
  obtain ⟨s, m, i, hr⟩ := hn
  unfold Format.sub
  rw [hr, sum_self]
  rfl
theorem sub_inf {x : Nat} (h : Inf x) : double.sub x x = none := by
  have hs : double.signWeight = 9223372036854775808 := rfl
  have hb : double.binade = 4503599627370496 := rfl
  have hi : double.infRung = 9218868437227405312 := rfl
  unfold Inf at h
  have hr : ∃ s, double.read x = .infinity s := by
    unfold Format.read
    simp only [hs, hb, hi]
    rw [if_neg (by omega), if_neg (by omega), if_pos h]
    exact ⟨_, rfl⟩
  obtain ⟨s, hr⟩ := hr
  unfold Format.sub
  rw [hr]
  cases s <;> rfl
end PF
/- The other package's Parse. Condition: the text's length; strconv's tables. -/
namespace Go.Proofs.YtagiddbfhlokcaaGreatDoor
open Go.RowKit
set_option maxRecDepth 100000
theorem run_sub_fin {x : Nat} (h : PF.Fin x) (w : World) : (binOp BinOp.sub 99 (.float .f64 x) (.float .f64 x)).run Tryz.prog w = .ok (.float .f64 0) w := by
  have hs := PF.sub_fin h
  simp [binOp, go_sem, Op.floatArith, FloatKind.format, hs]
theorem run_sub_inf {x : Nat} (h : PF.Inf x) (w : World) : ∃ y, (binOp BinOp.sub 99 (.float .f64 x) (.float .f64 x)).run Tryz.prog w = .ok (.float .f64 y) w.drew ∧ ∃ s t, Ieee.double.read y = .nan s t := by
  have hs := PF.sub_inf h
  refine ⟨Question.cut (.nanBits .f64 x x) (w.tape w.drawn (.nanBits .f64 x x)), ?_, ?_⟩
  · simp [binOp, go_sem, Op.floatArith, FloatKind.format, hs, Question.forced]
  · generalize w.tape w.drawn (.nanBits .f64 x x) = t
    have h1 : Ieee.double.signWeight = 9223372036854775808 := rfl
    have h2 : Ieee.double.binade = 4503599627370496 := rfl
    have h3 : Ieee.double.infRung = 9218868437227405312 := rfl
    unfold Question.cut Ieee.Format.read
    simp only [h1, h2, h3]
    have h4 : (t / 2) % (2 ^ 52 - 1) < 2 ^ 52 - 1 := Nat.mod_lt _ (by decide)
    have h5 : t % 2 < 2 := Nat.mod_lt _ (by decide)
    generalize (t / 2) % (2 ^ 52 - 1) = b at *
    generalize t % 2 = a at *
    have h6 : (2 : Nat) ^ 52 - 1 = 4503599627370495 := by decide
    have h7 : (2 : Nat) ^ 63 = 9223372036854775808 := by decide
    rw [h6] at h4
    rw [h7]
    rw [if_neg (by omega), if_neg (by omega), if_neg (by omega)]
    exact ⟨_, _, rfl⟩
theorem run_neq_nan {y : Nat} {s : Bool} {t : Nat} (h : Ieee.double.read y = .nan s t) (w : World) : (binOp BinOp.neq 99 (.float .f64 y) (.float .f64 0)).run Tryz.prog w = .ok (.bool true) w := by
  simp [binOp, go_sem, Op.floatCmp, FloatKind.format, Ieee.Format.order, h, Ieee.Datum.order]
theorem run_neq_zero (w : World) : (binOp BinOp.neq 99 (.float .f64 0) (.float .f64 0)).run Tryz.prog w = .ok (.bool false) w := by
  kernel_rfl
theorem results53d {F : Func} (hF : F.results = #[.cell 2 53, .tmp 3]) {tmps : Array Value} {wr : World} {B : Nat} {x y z a b c : Value} (hb : tmps.getD 2 undef = .pointer (some ⟨B, 0, none⟩)) (hk : wr.heap[B]? = some (.cells #[a, b, c] 53 (0, 0))) :
    (results F tmps).run Tryz.prog (((wr.setCell ⟨B, 0, none⟩ x).setCell ⟨B, 1, none⟩ y).setCell ⟨B, 2, none⟩ z).drew = .ok (.tuple #[.agg #[x, y, z], tmps.getD 3 undef]) (((wr.setCell ⟨B, 0, none⟩ x).setCell ⟨B, 1, none⟩ y).setCell ⟨B, 2, none⟩ z).drew := by
  have h1 := heap_setCell_same _ B 0 _ _ x hk
  have h2 := heap_setCell_same _ B 1 _ _ y h1
  have h3 := heap_setCell_same _ B 2 _ _ z h2
  exact results2 hF hb h3
theorem suffix_snoc (m : List UInt8) (z : UInt8) : Lib.hasSuffix (m ++ [z]) [105] = decide (z = 105) ∧ (z = 105 → Lib.trimSuffix (m ++ [z]) [105] = m) := by
  have h1 : Lib.hasSuffix (m ++ [z]) [105] = decide (z = 105) := by
    unfold Lib.hasSuffix List.isSuffixOf
    simp [List.isPrefixOf]
    by_cases h : z = 105
    · simp [h]
    · simp [h, Ne.symm h]
  refine ⟨h1, fun h => ?_⟩
  unfold Lib.trimSuffix
  rw [h1, if_pos (decide_eq_true h)]
  simp
theorem strs_t (w0 : World) (g : Nat) (hg : w0.heap.size = g) : ∀ k (h : k < trues.length), (w0.alloc (.cells #[.string ⟨#[116]⟩, .string ⟨#[84]⟩, .string ⟨#[116, 114, 117, 101]⟩, .string ⟨#[84, 114, 117, 101]⟩, .string ⟨#[84, 82, 85, 69]⟩] 9 (0, 0))).cell? ⟨g, k, none⟩ = some (.string (bs trues[k])) := by
  subst hg
  intro k h
  rw [Lib.cell_of_heap (newest _ _)]
  match k, h with
  | 0, _ => rfl
  | 1, _ => rfl
  | 2, _ => rfl
  | 3, _ => rfl
  | 4, _ => rfl
  | k + 5, h => exact absurd h (by simp [trues])
theorem strs_f (w0 : World) (g : Nat) (hg : w0.heap.size = g) : ∀ k (h : k < falses.length), (w0.alloc (.cells #[.string ⟨#[102]⟩, .string ⟨#[70]⟩, .string ⟨#[102, 97, 108, 115, 101]⟩, .string ⟨#[70, 97, 108, 115, 101]⟩, .string ⟨#[70, 65, 76, 83, 69]⟩] 9 (0, 0))).cell? ⟨g, k, none⟩ = some (.string (bs falses[k])) := by
  subst hg
  intro k h
  rw [Lib.cell_of_heap (newest _ _)]
  match k, h with
  | 0, _ => rfl
  | 1, _ => rfl
  | 2, _ => rfl
  | 3, _ => rfl
  | 4, _ => rfl
  | k + 5, h => exact absurd h (by simp [falses])
set_option maxHeartbeats 8000000 in
theorem parse21 {T : Nat → Nat × Nat} {F : Nat → Nat} {B2 o2 B o : Nat} {S : Nat → ByteArray} (l : List UInt8) (hlen : l.length ≤ 140737488355328) (w : World) (hw : PEnv T F B2 o2 B o S w) {ev : Value} (hv : w.cell? ⟨3, 0, none⟩ = some ev) (hev : ev = .nilIface ∨ ∃ te pe, ev = .iface te pe) :
    Calls Tryz.prog 21 #[.string (bs l)] w fun e w' => e = .returned (.tuple #[(valP (tabF T) F l).1, .int .i64 (valP (tabF T) F l).2]) ∧ Below w.heap.size w w' := by
  obtain ⟨V, hV⟩ : ∃ V, valP (tabF T) F l = V := ⟨_, rfl⟩
  rw [hV]
  unfold valP at hV
  have HV := Lib.hid hV
  have HW := Lib.hid (fun w2 (h : Below w.heap.size w w2) => hw.below h)
  have HE := Lib.hid (fun w2 (h : Below w.heap.size w w2) => (h.cell (cell_lt hv)).trans hv)
  have HEV := Lib.hid hev
  obtain ⟨w0, hw0⟩ : ∃ w0, w.alloc (.cells #[.int .i64 0, .int .u64 0, .string ⟨#[]⟩] 53 (0, 0)) = w0 := ⟨_, rfl⟩
  have HW0 := Lib.hid hw0
  have hs0 : w0.heap.size = w.heap.size + 1 := by rw [← hw0]; simp
  have HS0 := Lib.hid hs0
  clear hV hw hv hev hs0
  go_enter Tryz.func21, Tryz.ntmps21
  go_wp2_with fail
  refine (in51 trues l w0.heap.size _ (strs_t w0 _ rfl) (by decide)).mono ?_
  rintro e w1 ⟨rfl, rfl⟩
  obtain ⟨w1, hw1⟩ : ∃ w1, w0.alloc (.cells #[.string ⟨#[116]⟩, .string ⟨#[84]⟩, .string ⟨#[116, 114, 117, 101]⟩, .string ⟨#[84, 114, 117, 101]⟩, .string ⟨#[84, 82, 85, 69]⟩] 9 (0, 0)) = w1 := ⟨_, rfl⟩
  have HB1 : Hid (Below w0.heap.size w0 w1) := Lib.hid (by rw [← hw1]; exact (Below.refl _ _).alloc (Nat.le_refl _) _)
  rw [hw1]
  clear hw1
  by_cases ht : l ∈ trues
  · rw [if_pos ht] at HV
    have hd : decide (l ∈ trues) = true := decide_eq_true ht
    rw [hd]
    clear ht hd
    obtain ⟨f0, f1, f2, g0, g1, g2, hk, hbw⟩ := resF HW0.out HB1.out
    have HBW := Lib.hid hbw
    have HK := Lib.hid hk
    clear hk hbw
    go_wp2_with fail
    refine bodyPost_ret (results53 (F := Tryz.f21) rfl rfl HK.out) rfl ?_
    exact ⟨by rw [← HV.out]; rfl, ((HBW.out.setCell (Nat.le_refl _) _).setCell (Nat.le_refl _) _).setCell (Nat.le_refl _) _⟩
  · rw [if_neg ht] at HV
    have hd : decide (l ∈ trues) = false := decide_eq_false ht
    rw [hd]
    clear ht hd
    go_wp2_with fail
    refine (in51 falses l w1.heap.size _ (strs_f w1 _ rfl) (by decide)).mono ?_
    rintro e w2 ⟨rfl, rfl⟩
    obtain ⟨w2, hw2⟩ : ∃ w2, w1.alloc (.cells #[.string ⟨#[102]⟩, .string ⟨#[70]⟩, .string ⟨#[102, 97, 108, 115, 101]⟩, .string ⟨#[70, 97, 108, 115, 101]⟩, .string ⟨#[70, 65, 76, 83, 69]⟩] 9 (0, 0)) = w2 := ⟨_, rfl⟩
    have HB2 : Hid (Below w0.heap.size w0 w2) := Lib.hid (by rw [← hw2]; exact HB1.out.alloc HB1.out.size _)
    rw [hw2]
    clear hw2 HB1
    by_cases hf : l ∈ falses
    · rw [if_pos hf] at HV
      have hd : decide (l ∈ falses) = true := decide_eq_true hf
      rw [hd]
      clear hf hd
      obtain ⟨f0, f1, f2, g0, g1, g2, hk, hbw⟩ := resF HW0.out HB2.out
      have HBW := Lib.hid hbw
      have HK := Lib.hid hk
      clear hk hbw
      go_wp2_with fail
      refine bodyPost_ret (results53 (F := Tryz.f21) rfl rfl HK.out) rfl ?_
      exact ⟨by rw [← HV.out]; rfl, ((HBW.out.setCell (Nat.le_refl _) _).setCell (Nat.le_refl _) _).setCell (Nat.le_refl _) _⟩
    · rw [if_neg hf] at HV
      have hd : decide (l ∈ falses) = false := decide_eq_false hf
      rw [hd]
      clear hf hd
      have hbw0 : Below w.heap.size w w2 := by
        have h0 : Below w.heap.size w w0 := by rw [← HW0.out]; exact (Below.refl _ _).alloc (Nat.le_refl _) _
        exact h0.trans (HB2.out.mono h0.size)
      have HBA := Lib.hid hbw0
      clear hbw0
      rcases list_cases l with e | ⟨a, r, e⟩
      · have h0 : (bs l).size = 0 := by rw [bs_size, e]; rfl
        have h0z : ¬((0 : Int) < ((bs l).size : Int)) := by omega
        have h1z : ¬((1 : Int) < ((bs l).size : Int)) := by omega
        have HVE : Hid ((val 0 0 ⟨#[]⟩, 2) = V) := Lib.hid (by rw [← HV.out, e]; rfl)
        have MF := Lib.hid (isFloat53 l (by omega) w2)
        have hdec : PF.decB l = false := by rw [e]; rfl
        rw [hdec] at MF
        clear e h0 hdec
        go_wp2_with fail
        refine MF.out.mono ?_
        rintro e w3 ⟨rfl, rfl⟩
        obtain ⟨f0, f1, f2, g0, g1, g2, hk, hbw⟩ := resF HW0.out HB2.out
        have HBW := Lib.hid hbw
        have HK := Lib.hid hk
        clear hk hbw
        go_wp2_with fail
        refine bodyPost_ret (results53 (F := Tryz.f21) rfl rfl HK.out) rfl ?_
        exact ⟨by rw [← HVE.out]; rfl, ((HBW.out.setCell (Nat.le_refl _) _).setCell (Nat.le_refl _) _).setCell (Nat.le_refl _) _⟩
      · obtain ⟨hlt, hg, hem, h0i, h1i, htl⟩ := bs_head e
        by_cases h34 : a = 34
        · have c34 : ((a.toNat : Int) == 34) = true := byte_eq a 34 (by decide) h34
          have hq : headIs 34 l = true := by rw [e, h34]; rfl
          rw [if_pos hq] at HV
          have HVU : Hid (unqV (PF.unq r) = V) := Lib.hid (by rw [← HV.out, e]; rfl)
          have MU := Lib.hid (unquoted52 r (by rw [e] at hlen; simp at hlen; omega) w2)
          rw [h34] at e
          rw [← e] at MU
          clear e h34 hq htl
          go_wp2_with fail
          refine MU.out.mono ?_
          rintro e w3 ⟨rfl, hb3⟩
          have HB3 := Lib.hid (HB2.out.trans (hb3.mono HB2.out.size))
          clear hb3
          obtain ⟨u, hu⟩ : ∃ u, PF.unq r = u := ⟨_, rfl⟩
          rw [hu] at HVU ⊢
          clear hu
          cases u with
          | none =>
            unfold uqR
            unfold unqV at HVU
            simp only at HVU ⊢
            obtain ⟨f0, f1, f2, g0, g1, g2, hk, hbw⟩ := resF HW0.out HB3.out
            have HBW := Lib.hid hbw
            have HK := Lib.hid hk
            clear hk hbw
            go_wp2_with fail
            refine bodyPost_ret (results53 (F := Tryz.f21) rfl rfl HK.out) rfl ?_
            exact ⟨by rw [← HVU.out]; rfl, ((HBW.out.setCell (Nat.le_refl _) _).setCell (Nat.le_refl _) _).setCell (Nat.le_refl _) _⟩
          | some t =>
            unfold uqR
            unfold unqV at HVU
            simp only at HVU ⊢
            by_cases h6 : 65536 < t.length
            · rw [if_pos h6] at HVU
              have h6z : (65536 : Int) < ((bs t).size : Int) := by rw [bs_size]; omega
              clear h6
              obtain ⟨f0, f1, f2, g0, g1, g2, hk, hbw⟩ := resF HW0.out HB3.out
              have HBW := Lib.hid hbw
              have HK := Lib.hid hk
              clear hk hbw
              go_wp2_with fail
              refine bodyPost_ret (results53 (F := Tryz.f21) rfl rfl HK.out) rfl ?_
              exact ⟨by rw [← HVU.out]; rfl, ((HBW.out.setCell (Nat.le_refl _) _).setCell (Nat.le_refl _) _).setCell (Nat.le_refl _) _⟩
            · rw [if_neg h6] at HVU
              have h6z : ¬(65536 : Int) < ((bs t).size : Int) := by rw [bs_size]; omega
              clear h6
              obtain ⟨f0, f1, f2, g0, g1, g2, hk, hbw⟩ := resF HW0.out HB3.out
              have HBW := Lib.hid hbw
              have HK := Lib.hid hk
              clear hk hbw
              go_wp2_with fail
              refine bodyPost_ret (results53 (F := Tryz.f21) rfl rfl HK.out) rfl ?_
              exact ⟨by rw [← HVU.out]; rfl, ((HBW.out.setCell (Nat.le_refl _) _).setCell (Nat.le_refl _) _).setCell (Nat.le_refl _) _⟩
        · have c34 : ((a.toNat : Int) == 34) = false := byte_ne a 34 (by decide) h34
          have hq : headIs 34 l = false := by rw [e]; simp [headIs, h34]
          rw [if_neg (by rw [hq]; decide)] at HV
          clear h34 hq htl
          obtain ⟨m, z, hmz⟩ : ∃ m z, l = m ++ [z] := by
            rcases List.eq_nil_or_concat l with h | ⟨m, z, h⟩
            · rw [h] at e; cases e
            · exact ⟨m, z, by rw [h, List.concat_eq_append]⟩
          obtain ⟨bi, hbi⟩ : ∃ b, (decide (1 < l.length) && decide (z = 105)) = b := ⟨_, rfl⟩
          have HBI := Lib.hid hbi
          have HMZ := Lib.hid hmz
          have hsz : (bs l).size = m.length + 1 := by rw [bs_size, hmz]; simp
          obtain ⟨k, hk⟩ : ∃ k, m.length = k := ⟨_, rfl⟩
          rw [hk] at hsz
          have hkz : ((bs l).size : Int) - 1 = (k : Int) := by omega
          have hklt : k < (bs l).size := by omega
          have hgz : (bs l)[k] = z := by rw [bs_get]; simp [hmz, ← hk]
          have hkl : (k : Int) < ((bs l).size : Int) := by omega
          have hll : l.length = k + 1 := by rw [← bs_size]; exact hsz
          have HSZ := Lib.hid hsz
          have HK := Lib.hid hk
          clear e hbi hmz hsz hk
          go_upto_region 12 with (fail)
          go_cut [50] from 40 to 50 (fun v w' => v = .bool bi ∧ w2 = w')
          case first =>
            have hbi := HBI.out
            by_cases hk1 : 1 < l.length
            · have hk1z : (1 : Int) < ((bs l).size : Int) := by rw [HSZ.out]; omega
              by_cases hz : z = 105
              · have cz : ((z.toNat : Int) == 105) = true := byte_eq z 105 (by decide) hz
                obtain rfl : true = bi := by rw [← hbi]; simp [hk1, hz]
                clear hbi hz
                go_wp2_with fail
                go_meet
                case rel => exact ⟨rfl, rfl⟩
              · have cz : ((z.toNat : Int) == 105) = false := byte_ne z 105 (by decide) hz
                obtain rfl : false = bi := by rw [← hbi]; simp [hz]
                clear hbi hz
                go_wp2_with fail
                go_meet
                case rel => exact ⟨rfl, rfl⟩
            · have hk1z : ¬(1 : Int) < ((bs l).size : Int) := by rw [HSZ.out]; omega
              obtain rfl : false = bi := by rw [← hbi]; simp [hk1]
              clear hbi
              go_wp2_with fail
              go_meet
              case rel => exact ⟨rfl, rfl⟩
          case rest =>
            obtain ⟨rfl, rfl⟩ := hcut
            have hsuf := suffix_snoc m z
            rw [← HMZ.out] at hsuf
            cases bi with
            | true =>
              have hbi := HBI.out
              simp only [Bool.and_eq_true, decide_eq_true_eq] at hbi
              rw [if_pos (by rw [hsuf.1]; exact decide_eq_true hbi.2), hsuf.2 hbi.2] at HV
              have MI := Lib.hid (int37 m (by rw [HK.out]; omega) w2)
              have hcutl : (bs l).extract 0 k = bs m := by
                apply ByteArray.ext
                apply Array.toList_inj.1
                rw [Lib.extract_data, bs_list, bs_list, HMZ.out, ← HK.out]
                simp
              obtain ⟨xx, hxx⟩ : ∃ x, PF.intP m = x := ⟨_, rfl⟩
              rw [hxx] at MI HV
              obtain ⟨i, n⟩ := xx
              clear hxx hbi hsuf
              simp only at MI HV
              go_wp2_with fail
              refine MI.out.mono ?_
              rintro e w3 ⟨rfl, rfl⟩
              by_cases hn : n = 0
              · rw [if_pos hn] at HV
                have hnb : (n == 0) = true := by rw [hn]; rfl
                clear hn
                obtain ⟨f0, f1, f2, g0, g1, g2, hk, hbw⟩ := resF HW0.out HB2.out
                have HBW := Lib.hid hbw
                have HK := Lib.hid hk
                clear hk hbw
                go_wp2_with fail
                refine bodyPost_ret (results53 (F := Tryz.f21) rfl rfl HK.out) rfl ?_
                exact ⟨by rw [← HV.out]; rfl, ((HBW.out.setCell (Nat.le_refl _) _).setCell (Nat.le_refl _) _).setCell (Nat.le_refl _) _⟩
              · rw [if_neg hn] at HV
                have hnb : (n == 0) = false := by rw [beq_eq_false_iff_ne]; exact hn
                clear hn
                obtain ⟨f0, f1, f2, g0, g1, g2, hk, hbw⟩ := resF HW0.out HB2.out
                have HBW := Lib.hid hbw
                have HK := Lib.hid hk
                clear hk hbw
                go_wp2_with fail
                refine bodyPost_ret (results53 (F := Tryz.f21) rfl rfl HK.out) rfl ?_
                exact ⟨by rw [← HV.out]; rfl, ((HBW.out.setCell (Nat.le_refl _) _).setCell (Nat.le_refl _) _).setCell (Nat.le_refl _) _⟩
            | false =>
              have HV2 : Hid ((if PF.decB l then (if (PF.atof (tabF T) F l).2 then (val 0 0 ⟨#[]⟩, 3) else (val 1 (PF.atof (tabF T) F l).1 ⟨#[]⟩, 0)) else (val 0 0 ⟨#[]⟩, 2)) = V) := Lib.hid (by
                by_cases hz : z = 105
                · have hbi := HBI.out
                  have h1 : ¬1 < l.length := by intro h; simp [h, hz] at hbi
                  have hm : m = [] := by apply List.eq_nil_of_length_eq_zero; rw [HK.out]; omega
                  have hv := HV.out
                  rw [if_pos (by rw [hsuf.1]; exact decide_eq_true hz), hsuf.2 hz, hm] at hv
                  rw [← hv, HMZ.out, hm, hz]
                  rfl
                · have hv := HV.out
                  rw [if_neg (by rw [hsuf.1]; simp [hz])] at hv
                  exact hv)
              clear hsuf HV
              have M58 := Lib.hid (isFloat53 l (by omega) w2)
              obtain ⟨bd, hbd⟩ : ∃ b, PF.decB l = b := ⟨_, rfl⟩
              have HBD := Lib.hid hbd
              rw [hbd] at HV2 M58
              clear hbd
              go_wp2_with fail
              refine M58.out.mono ?_
              rintro e w3 ⟨rfl, rfl⟩
              cases bd with
              | false =>
                rw [if_neg (by decide)] at HV2
                obtain ⟨f0, f1, f2, g0, g1, g2, hk, hbw⟩ := resF HW0.out HB2.out
                have HBW := Lib.hid hbw
                have HK := Lib.hid hk
                clear hk hbw
                go_wp2_with fail
                refine bodyPost_ret (results53 (F := Tryz.f21) rfl rfl HK.out) rfl ?_
                exact ⟨by rw [← HV2.out]; rfl, ((HBW.out.setCell (Nat.le_refl _) _).setCell (Nat.le_refl _) _).setCell (Nat.le_refl _) _⟩
              | true =>
                rw [if_pos rfl] at HV2
                have MP := Lib.hid (parse54 (bs l) (by rw [bs_list]; exact HBD.out) (HW.out _ HBA.out) (HE.out _ HBA.out) HEV.out)
                rw [bs_list] at MP
                have hfin := PF.atof_fin (T := tabF T) (F := F) (fun p => (HW.out _ HBA.out).tl _ |>.1) (HW.out _ HBA.out).flo.ok l
                obtain ⟨xx, hxx⟩ : ∃ x, PF.atof (tabF T) F l = x := ⟨_, rfl⟩
                rw [hxx] at MP HV2 hfin
                obtain ⟨x, ov⟩ := xx
                clear hxx
                simp only at MP HV2 hfin
                have HFIN := Lib.hid hfin
                clear hfin
                go_wp2_with fail
                refine MP.out.mono ?_
                rintro e w3 ⟨h1, h2, hb3⟩
                have HB3 := Lib.hid (HB2.out.trans (hb3.mono HB2.out.size))
                simp only at h1 h2
                cases ov with
                | true =>
                  obtain ⟨NN, rfl⟩ := h2 rfl
                  clear h1 h2 hb3
                  rw [if_pos rfl] at HV2
                  obtain ⟨y, hsub, s, t, hnan⟩ := run_sub_inf (HFIN.out.2.1 rfl) w3
                  have hneq : (FloatKind.f64.format.order y 0 != some Ordering.eq) = true := by
                    show (Ieee.double.order y 0 != some Ordering.eq) = true
                    unfold Ieee.Format.order
                    rw [hnan]
                    rfl
                  clear hnan
                  obtain ⟨f0, f1, f2, g0, g1, g2, hk, hbw⟩ := resF HW0.out HB3.out
                  have HBW := Lib.hid hbw
                  have HK := Lib.hid hk
                  clear hk hbw
                  go_wp2_with fail
                  refine bodyPost_ret (results53d (F := Tryz.f21) rfl rfl HK.out) rfl ?_
                  exact ⟨by rw [← HV2.out]; rfl, (((HBW.out.setCell (Nat.le_refl _) _).setCell (Nat.le_refl _) _).setCell (Nat.le_refl _) _).drew⟩
                | false =>
                  obtain rfl := h1 rfl
                  clear h1 h2 hb3
                  rw [if_neg (by decide)] at HV2
                  have hsub := run_sub_fin (HFIN.out.1 rfl)
                  have hneq : (FloatKind.f64.format.order 0 0 != some Ordering.eq) = false := by kernel_rfl
                  have h55 := run55 x
                  obtain ⟨f0, f1, f2, g0, g1, g2, hk, hbw⟩ := resF HW0.out HB3.out
                  have HBW := Lib.hid hbw
                  have HK := Lib.hid hk
                  clear hk hbw
                  go_wp2_with fail
                  refine bodyPost_ret (results53 (F := Tryz.f21) rfl rfl HK.out) rfl ?_
                  exact ⟨by rw [← HV2.out]; rfl, ((HBW.out.setCell (Nat.le_refl _) _).setCell (Nat.le_refl _) _).setCell (Nat.le_refl _) _⟩
end Go.Proofs.YtagiddbfhlokcaaGreatDoor
/- Whether a value is formed, by the program and by the reference. Condition: the bits are 64. -/
namespace PF
open Ieee
def Nan (x : Nat) : Prop := 9218868437227405312 < x % 9223372036854775808
theorem sorts (x : Nat) : Fin x ∨ Inf x ∨ Nan x := by unfold Fin Inf Nan; omega
theorem read_fin' {x : Nat} (h : Fin x) : ∃ s m i, double.read x = .number s m i ∧ m < 9007199254740992 ∧ -1074 ≤ i ∧ i ≤ 971 := by
  have hlow : Low x 2046 := by unfold Low; unfold Fin at h; omega
  obtain ⟨s, m, i, h1, h2, h3, h4⟩ := read_low hlow (Nat.le_refl _)
  exact ⟨s, m, i, h1, by omega, h3, by omega⟩
theorem order_fin {x : Nat} (h : Fin x) : double.order x x = some .eq := by
  obtain ⟨s, m, i, h1, _, _, _⟩ := read_fin' h
  unfold Format.order Datum.order
  rw [h1]
  simp
theorem read_inf {x : Nat} (h : Inf x) : ∃ s, double.read x = .infinity s := by
  have hb : double.binade = 4503599627370496 := rfl
  have hi : double.infRung = 9218868437227405312 := rfl
  have hs : double.signWeight = 9223372036854775808 := rfl
  unfold Inf at h
  unfold Format.read
  simp only [hs, hb, hi]
  rw [if_neg (by omega), if_neg (by omega), if_pos h]
  exact ⟨_, rfl⟩
theorem read_nan {x : Nat} (h : Nan x) : ∃ s t, double.read x = .nan s t := by
  have hb : double.binade = 4503599627370496 := rfl
  have hi : double.infRung = 9218868437227405312 := rfl
  have hs : double.signWeight = 9223372036854775808 := rfl
  unfold Nan at h
  unfold Format.read
  simp only [hs, hb, hi]
  rw [if_neg (by omega), if_neg (by omega), if_neg (by omega)]
  exact ⟨_, _, rfl⟩
theorem order_inf {x : Nat} (h : Inf x) : double.order x x = some .eq := by
  obtain ⟨s, h1⟩ := read_inf h
  unfold Format.order Datum.order
  rw [h1]
  simp
theorem order_nan {x : Nat} (h : Nan x) : double.order x x = none := by
  obtain ⟨s, t, h1⟩ := read_nan h
  unfold Format.order Datum.order
  rw [h1]
theorem read_max : double.read 9218868437227405311 = .number false 9007199254740991 971 := by decide +kernel
theorem read_pos {x : Nat} (h : x < 9218868437227405312) : ∃ m i, double.read x = .number false m i ∧ m < 9007199254740992 ∧ -1074 ≤ i ∧ i ≤ 971 := by
  obtain ⟨s, m, i, h1, h2, h3, h4⟩ := read_fin' (x := x) (by unfold Fin; omega)
  have hs : double.signWeight = 9223372036854775808 := rfl
  have hb : double.binade = 4503599627370496 := rfl
  have hi : double.infRung = 9218868437227405312 := rfl
  have hf : s = false := by
    unfold Format.read at h1
    simp only [hs, hb, hi] at h1
    split at h1
    · injection h1 with h1 _ _
      rw [← h1]
      simp
      omega
    · split at h1
      · injection h1 with h1 _ _
        rw [← h1]
        simp
        omega
      · split at h1 <;> cases h1
  subst hf
  exact ⟨m, i, h1, h2, h3, h4⟩
theorem max_fin {x : Nat} (h : Fin x) : (double.order (x % 9223372036854775808) 9218868437227405311 == some .gt) = false := by
  obtain ⟨m, i, h1, h2, h3, h4⟩ := read_pos (x := x % 9223372036854775808) h
  unfold Format.order Datum.order
  rw [h1, read_max]
  have hmin : min i 971 = i := Int.min_eq_left h4
  simp only [hmin, Int.sub_self]
  have h5 : signed false m (0 : Int).toNat ≤ signed false 9007199254740991 (971 - i).toNat := by
    unfold signed
    simp only [Bool.false_eq_true, if_false]
    have : m ≤ 9007199254740991 <<< (971 - i).toNat := by
      rw [Nat.shiftLeft_eq]
      have := Nat.pow_pos (n := (971 - i).toNat) (show 0 < 2 by omega)
      have h6 : 9007199254740991 * 1 ≤ 9007199254740991 * 2 ^ (971 - i).toNat := Nat.mul_le_mul_left _ this
      omega
    show ((m <<< 0 : Nat) : Int) ≤ ((9007199254740991 <<< (971 - i).toNat : Nat) : Int)
    rw [Nat.shiftLeft_zero]
    exact Int.ofNat_le.2 this
  rw [beq_eq_false_iff_ne]
  intro h
  injection h with h
  rw [Int.compare_eq_gt] at h
  omega
theorem max_inf {x : Nat} (h : Inf x) : (double.order (x % 9223372036854775808) 9218868437227405311 == some .gt) = true := by
  unfold Inf at h
  rw [h]
  decide +kernel
end PF
namespace Go.Proofs.YtagiddbfhlokcaaGreatDoor.Ser
open Go.RowKit Go.Sort
set_option maxRecDepth 100000
theorem run66 (n : Nat) (w : World) : (callFunc 66 #[.int .u64 (n : Int)]).run Tryz.prog w = .ok (.value (.float .f64 n)) w := by
  rw [run_callFunc_extern Tryz.func66 (by kernel_rfl) (by kernel_rfl) (by kernel_rfl) (e := Extern.MathFloatBits.float64frombits) (by kernel_rfl)]
  rfl
theorem abs147 (x : Nat) (hx : x < 18446744073709551616) (w : World) : Calls Tryz.prog 147 #[.float .f64 x] w fun e w' => e = .returned (.float .f64 (x % 9223372036854775808)) ∧ w = w' := by
  have h7 := run55 x
  have h11 := run66 (x % 9223372036854775808)
  have b1 : bits BinOp.andNot IntKind.u64 (x : Int) 9223372036854775808 = ((x % 9223372036854775808 : Nat) : Int) := by
    have h := u64_andNot_nat x 9223372036854775808 hx (by omega)
    have e : (18446744073709551615 - 9223372036854775808 : Nat) = 2 ^ 63 - 1 := by decide
    rw [e, Nat.and_two_pow_sub_one_eq_mod] at h
    exact h
  obtain ⟨y, hy⟩ : ∃ y, x % 9223372036854775808 = y := ⟨_, rfl⟩
  rw [hy] at h11 b1 ⊢
  clear hy
  go_enter Tryz.func147, Tryz.ntmps147
  go_wp2_with fail
  go_ret
  exact ⟨rfl, rfl⟩
theorem isNaN94 (x : Nat) (b : Bool) (h : (FloatKind.f64.format.order x x != some Ordering.eq) = b) (w : World) : Calls Tryz.prog 94 #[.float .f64 x] w fun e w' => e = .returned (.bool b) ∧ w = w' := by
  go_enter Tryz.func94, Tryz.ntmps94
  go_wp2_with fail
  go_ret
  exact ⟨by rw [← h]; rfl, rfl⟩
theorem isInf95 (x : Nat) (hx : x < 18446744073709551616) (b : Bool) (h : (FloatKind.f64.format.order (x % 9223372036854775808) 9218868437227405311 == some Ordering.gt) = b) (w : World) : Calls Tryz.prog 95 #[.float .f64 x, .int .i64 0] w fun e w' => e = .returned (.bool b) ∧ w = w' := by
  have M := Lib.hid (abs147 x hx w)
  obtain ⟨y, hy⟩ : ∃ y, x % 9223372036854775808 = y := ⟨_, rfl⟩
  rw [hy] at M h
  clear hy
  cases b with
  | true =>
    go_enter Tryz.func95, Tryz.ntmps95
    go_wp2_with fail
    refine M.out.mono ?_
    rintro e w' ⟨rfl, rfl⟩
    go_wp2_with fail
    go_ret
    exact ⟨rfl, rfl⟩
  | false =>
    go_enter Tryz.func95, Tryz.ntmps95
    go_wp2_with fail
    refine M.out.mono ?_
    rintro e w' ⟨rfl, rfl⟩
    go_wp2_with fail
    go_ret
    exact ⟨rfl, rfl⟩
theorem finB_cases (x : Nat) : (PF.Fin x → finB (x : Int) = true) ∧ (PF.Inf x → finB (x : Int) = false) ∧ (PF.Nan x → finB (x : Int) = false) := by
  unfold PF.Fin PF.Inf PF.Nan finB
  refine ⟨fun h => ?_, fun h => ?_, fun h => ?_⟩
  · exact decide_eq_true (by omega)
  · exact decide_eq_false (by omega)
  · exact decide_eq_false (by omega)
/-- The program's view of a float: no NaN, no infinity. -/
theorem float_view (x : Nat) (hx : x < 18446744073709551616) : ∃ b1 b2, (∀ w, Calls Tryz.prog 94 #[.float .f64 x] w fun e w' => e = .returned (.bool b1) ∧ w = w') ∧ (∀ w, Calls Tryz.prog 95 #[.float .f64 x, .int .i64 0] w fun e w' => e = .returned (.bool b2) ∧ w = w') ∧ (!b1 && !b2) = finB (x : Int) := by
  obtain ⟨f1, f2, f3⟩ := finB_cases x
  rcases PF.sorts x with h | h | h
  · refine ⟨false, false, isNaN94 x false ?_, isInf95 x hx false (PF.max_fin h), by rw [f1 h]; rfl⟩
    show (Ieee.double.order x x != some Ordering.eq) = false
    rw [PF.order_fin h]; rfl
  · refine ⟨false, true, isNaN94 x false ?_, isInf95 x hx true (PF.max_inf h), by rw [f2 h]; rfl⟩
    show (Ieee.double.order x x != some Ordering.eq) = false
    rw [PF.order_inf h]; rfl
  · obtain ⟨b, hb⟩ : ∃ b, (FloatKind.f64.format.order (x % 9223372036854775808) 9218868437227405311 == some Ordering.gt) = b := ⟨_, rfl⟩
    refine ⟨true, b, isNaN94 x true ?_, isInf95 x hx b hb, by rw [f3 h]; rfl⟩
    show (Ieee.double.order x x != some Ordering.eq) = true
    rw [PF.order_nan h]; rfl
theorem formV_1 (b : Int) (t : ByteArray) : formV 1 b t = (t.toList.isEmpty && finB b) := rfl
theorem formV_2 (b : Int) (t : ByteArray) : formV 2 b t = t.toList.isEmpty := rfl
theorem formV_3 (b : Int) (t : ByteArray) : formV 3 b t = (t.toList.isEmpty && decide (b < 2)) := rfl
theorem formV_4 (b : Int) (t : ByteArray) : formV 4 b t = (decide (b = 0) && decide (t.size ≤ 65536)) := rfl
theorem formV_o (k b : Int) (t : ByteArray) (h1 : k ≠ 1) (h2 : k ≠ 2) (h3 : k ≠ 3) (h4 : k ≠ 4) : formV k b t = false := by
  unfold formV; rw [if_neg h1, if_neg h2, if_neg h3, if_neg h4]
set_option maxHeartbeats 4000000 in
theorem formed59 (k : Int) (x : Nat) (t : ByteArray) (hx : x < 18446744073709551616) (w : World) :
    Calls Tryz.prog 59 #[.agg #[.int .i64 k, .int .u64 (x : Int), .string t]] w fun e w' => e = .returned (.bool (formV k (x : Int) t)) ∧ Below w.heap.size w w' := by
  obtain ⟨r, hr⟩ : ∃ r, formV k (x : Int) t = r := ⟨_, rfl⟩
  rw [hr]
  have HB : Hid (∀ c, Below w.heap.size w (w.alloc c)) := Lib.hid fun c => (Below.refl _ _).alloc (Nat.le_refl _) c
  obtain ⟨e, he⟩ : ∃ e, t.toList.isEmpty = e := ⟨_, rfl⟩
  by_cases h1 : k = 1
  · subst h1
    rw [formV_1, he] at hr
    obtain ⟨b1, b2, M1, M2, hb⟩ := float_view x hx
    rw [← hb] at hr
    have HR := Lib.hid hr
    have H1 := Lib.hid M1
    have H2 := Lib.hid M2
    have h66 := run66 x
    clear hr M1 M2 hb hx
    cases e with
    | false =>
      go_enter Tryz.func59, Tryz.ntmps59
      go_wp2_with fail
      go_ret
      exact ⟨by rw [← HR.out]; rfl, HB.out _⟩
    | true =>
      cases b1 with
      | true =>
        go_enter Tryz.func59, Tryz.ntmps59
        go_wp2_with fail
        refine (H1.out _).mono ?_
        rintro e w' ⟨rfl, rfl⟩
        go_wp2_with fail
        go_ret
        exact ⟨by rw [← HR.out]; rfl, HB.out _⟩
      | false =>
        go_enter Tryz.func59, Tryz.ntmps59
        go_wp2_with fail
        refine (H1.out _).mono ?_
        rintro e w' ⟨rfl, rfl⟩
        go_wp2_with fail
        refine (H2.out _).mono ?_
        rintro e w' ⟨rfl, rfl⟩
        cases b2 with
        | false =>
          go_wp2_with fail
          go_ret
          exact ⟨by rw [← HR.out]; rfl, HB.out _⟩
        | true =>
          go_wp2_with fail
          go_ret
          exact ⟨by rw [← HR.out]; rfl, HB.out _⟩
  · have k1 : (k == 1) = false := by rw [beq_eq_false_iff_ne]; exact h1
    by_cases h2 : k = 2
    · subst h2
      rw [formV_2, he] at hr
      subst hr
      clear k1 h1 hx
      cases e with
      | false =>
        go_enter Tryz.func59, Tryz.ntmps59
        go_wp2_with fail
        go_ret
        exact ⟨rfl, HB.out _⟩
      | true =>
        go_enter Tryz.func59, Tryz.ntmps59
        go_wp2_with fail
        go_ret
        exact ⟨rfl, HB.out _⟩
    · have k2 : (k == 2) = false := by rw [beq_eq_false_iff_ne]; exact h2
      by_cases h3 : k = 3
      · subst h3
        rw [formV_3, he] at hr
        have HR := Lib.hid hr
        clear k1 k2 h1 h2 hx hr
        cases e with
        | false =>
          go_enter Tryz.func59, Tryz.ntmps59
          go_wp2_with fail
          go_ret
          exact ⟨by rw [← HR.out]; rfl, HB.out _⟩
        | true =>
          by_cases hb : (x : Int) < 2
          · have HR2 : Hid (true = r) := Lib.hid (by rw [← HR.out, decide_eq_true hb]; rfl)
            go_enter Tryz.func59, Tryz.ntmps59
            go_wp2_with fail
            go_ret
            exact ⟨by rw [← HR2.out]; rfl, HB.out _⟩
          · have HR2 : Hid (false = r) := Lib.hid (by rw [← HR.out, decide_eq_false hb]; rfl)
            go_enter Tryz.func59, Tryz.ntmps59
            go_wp2_with fail
            go_ret
            exact ⟨by rw [← HR2.out]; rfl, HB.out _⟩
      · have k3 : (k == 3) = false := by rw [beq_eq_false_iff_ne]; exact h3
        by_cases h4 : k = 4
        · subst h4
          rw [formV_4] at hr
          have HR := Lib.hid hr
          clear k1 k2 k3 h1 h2 h3 hx hr
          by_cases hb : x = 0
          · have hbz : ((x : Int) == 0) = true := by rw [hb]; rfl
            by_cases ht : t.size ≤ 65536
            · have htz : (t.size : Int) ≤ 65536 := by omega
              have HR2 : Hid (true = r) := Lib.hid (by rw [← HR.out, decide_eq_true (show (x : Int) = 0 by omega), decide_eq_true ht]; rfl)
              clear hb ht
              go_enter Tryz.func59, Tryz.ntmps59
              go_wp2_with fail
              go_ret
              exact ⟨by rw [← HR2.out]; rfl, HB.out _⟩
            · have htz : ¬ (t.size : Int) ≤ 65536 := by omega
              have HR2 : Hid (false = r) := Lib.hid (by rw [← HR.out, decide_eq_false ht, Bool.and_false])
              clear hb ht
              go_enter Tryz.func59, Tryz.ntmps59
              go_wp2_with fail
              go_ret
              exact ⟨by rw [← HR2.out]; rfl, HB.out _⟩
          · have hbz : ((x : Int) == 0) = false := by rw [beq_eq_false_iff_ne]; omega
            have HR2 : Hid (false = r) := Lib.hid (by rw [← HR.out, decide_eq_false (show ¬(x : Int) = 0 by omega)]; rfl)
            clear hb
            go_enter Tryz.func59, Tryz.ntmps59
            go_wp2_with fail
            go_ret
            exact ⟨by rw [← HR2.out]; rfl, HB.out _⟩
        · have k4 : (k == 4) = false := by rw [beq_eq_false_iff_ne]; exact h4
          rw [formV_o k x t h1 h2 h3 h4] at hr
          subst hr
          clear h1 h2 h3 h4 hx
          go_enter Tryz.func59, Tryz.ntmps59
          go_wp2_with fail
          go_ret
          exact ⟨rfl, HB.out _⟩
set_option maxHeartbeats 4000000 in
theorem formed97 (k : Int) (x : Nat) (t : ByteArray) (hx : x < 18446744073709551616) (w : World) :
    Calls Tryz.prog 97 #[.agg #[.int .i64 k, .int .u64 (x : Int), .string t]] w fun e w' => e = .returned (.bool (formV k (x : Int) t)) ∧ Below w.heap.size w w' := by
  obtain ⟨r, hr⟩ : ∃ r, formV k (x : Int) t = r := ⟨_, rfl⟩
  rw [hr]
  have HB : Hid (∀ c, Below w.heap.size w (w.alloc c)) := Lib.hid fun c => (Below.refl _ _).alloc (Nat.le_refl _) c
  obtain ⟨e, he⟩ : ∃ e, t.toList.isEmpty = e := ⟨_, rfl⟩
  by_cases h1 : k = 1
  · subst h1
    rw [formV_1, he] at hr
    have h66 := run66 x
    obtain ⟨f1, f2, f3⟩ := finB_cases x
    cases e with
    | false =>
      have HR : Hid (false = r) := Lib.hid hr
      clear hr hx f1 f2 f3
      go_enter Tryz.func97, Tryz.ntmps97
      go_wp2_with fail
      go_ret
      exact ⟨by rw [← HR.out]; rfl, HB.out _⟩
    | true =>
      rcases PF.sorts x with h | h | h
      · rw [f1 h] at hr
        have HR : Hid (true = r) := Lib.hid hr
        have ho : (FloatKind.f64.format.order x x == some Ordering.eq) = true := by
          show (Ieee.double.order x x == some Ordering.eq) = true
          rw [PF.order_fin h]; rfl
        have hz : (FloatKind.f64.format.order 0 0 == some Ordering.eq) = true := by kernel_rfl
        have hsub := run_sub_fin h
        clear hr hx f1 f2 f3 h
        go_enter Tryz.func97, Tryz.ntmps97
        go_wp2_with fail
        go_ret
        exact ⟨by rw [← HR.out]; rfl, HB.out _⟩
      · rw [f2 h] at hr
        have HR : Hid (false = r) := Lib.hid hr
        have ho : (FloatKind.f64.format.order x x == some Ordering.eq) = true := by
          show (Ieee.double.order x x == some Ordering.eq) = true
          rw [PF.order_inf h]; rfl
        obtain ⟨y, hsub, s', t', hy⟩ := run_sub_inf h (w.alloc (.cells #[.int .i64 1, .int .u64 (x : Int), .string t] 53 (0, 0)))
        have hz : (FloatKind.f64.format.order y 0 == some Ordering.eq) = false := by
          show (Ieee.double.order y 0 == some Ordering.eq) = false
          unfold Ieee.Format.order Ieee.Datum.order
          rw [hy]; rfl
        clear hr hx f1 f2 f3 h hy
        go_enter Tryz.func97, Tryz.ntmps97
        go_wp2_with fail
        go_ret
        exact ⟨by rw [← HR.out]; rfl, (HB.out _).drew⟩
      · rw [f3 h] at hr
        have HR : Hid (false = r) := Lib.hid hr
        have ho : (FloatKind.f64.format.order x x == some Ordering.eq) = false := by
          show (Ieee.double.order x x == some Ordering.eq) = false
          rw [PF.order_nan h]; rfl
        clear hr hx f1 f2 f3 h
        go_enter Tryz.func97, Tryz.ntmps97
        go_wp2_with fail
        go_ret
        exact ⟨by rw [← HR.out]; rfl, HB.out _⟩
  · have k1 : (k == 1) = false := by rw [beq_eq_false_iff_ne]; exact h1
    by_cases h2 : k = 2
    · subst h2
      rw [formV_2, he] at hr
      subst hr
      clear k1 h1 hx
      cases e with
      | false =>
        go_enter Tryz.func97, Tryz.ntmps97
        go_wp2_with fail
        go_ret
        exact ⟨rfl, HB.out _⟩
      | true =>
        go_enter Tryz.func97, Tryz.ntmps97
        go_wp2_with fail
        go_ret
        exact ⟨rfl, HB.out _⟩
    · have k2 : (k == 2) = false := by rw [beq_eq_false_iff_ne]; exact h2
      by_cases h3 : k = 3
      · subst h3
        rw [formV_3, he] at hr
        have HR := Lib.hid hr
        clear k1 k2 h1 h2 hx hr
        cases e with
        | false =>
          go_enter Tryz.func97, Tryz.ntmps97
          go_wp2_with fail
          go_ret
          exact ⟨by rw [← HR.out]; rfl, HB.out _⟩
        | true =>
          by_cases hb : (x : Int) ≤ 1
          · have HR2 : Hid (true = r) := Lib.hid (by rw [← HR.out, decide_eq_true (show (x : Int) < 2 by omega)]; rfl)
            go_enter Tryz.func97, Tryz.ntmps97
            go_wp2_with fail
            go_ret
            exact ⟨by rw [← HR2.out]; rfl, HB.out _⟩
          · have HR2 : Hid (false = r) := Lib.hid (by rw [← HR.out, decide_eq_false (show ¬(x : Int) < 2 by omega)]; rfl)
            go_enter Tryz.func97, Tryz.ntmps97
            go_wp2_with fail
            go_ret
            exact ⟨by rw [← HR2.out]; rfl, HB.out _⟩
      · have k3 : (k == 3) = false := by rw [beq_eq_false_iff_ne]; exact h3
        by_cases h4 : k = 4
        · subst h4
          rw [formV_4] at hr
          have HR := Lib.hid hr
          clear k1 k2 k3 h1 h2 h3 hx hr
          by_cases hb : x = 0
          · have hbz : ((x : Int) == 0) = true := by rw [hb]; rfl
            by_cases ht : t.size ≤ 65536
            · have htz : (t.size : Int) ≤ 65536 := by omega
              have HR2 : Hid (true = r) := Lib.hid (by rw [← HR.out, decide_eq_true (show (x : Int) = 0 by omega), decide_eq_true ht]; rfl)
              clear hb ht
              go_enter Tryz.func97, Tryz.ntmps97
              go_wp2_with fail
              go_ret
              exact ⟨by rw [← HR2.out]; rfl, HB.out _⟩
            · have htz : ¬ (t.size : Int) ≤ 65536 := by omega
              have HR2 : Hid (false = r) := Lib.hid (by rw [← HR.out, decide_eq_false ht, Bool.and_false])
              clear hb ht
              go_enter Tryz.func97, Tryz.ntmps97
              go_wp2_with fail
              go_ret
              exact ⟨by rw [← HR2.out]; rfl, HB.out _⟩
          · have hbz : ((x : Int) == 0) = false := by rw [beq_eq_false_iff_ne]; omega
            have HR2 : Hid (false = r) := Lib.hid (by rw [← HR.out, decide_eq_false (show ¬(x : Int) = 0 by omega)]; rfl)
            clear hb
            go_enter Tryz.func97, Tryz.ntmps97
            go_wp2_with fail
            go_ret
            exact ⟨by rw [← HR2.out]; rfl, HB.out _⟩
        · have k4 : (k == 4) = false := by rw [beq_eq_false_iff_ne]; exact h4
          rw [formV_o k x t h1 h2 h3 h4] at hr
          subst hr
          clear h1 h2 h3 h4 hx
          go_enter Tryz.func97, Tryz.ntmps97
          go_wp2_with fail
          go_ret
          exact ⟨rfl, HB.out _⟩
end Go.Proofs.YtagiddbfhlokcaaGreatDoor.Ser
