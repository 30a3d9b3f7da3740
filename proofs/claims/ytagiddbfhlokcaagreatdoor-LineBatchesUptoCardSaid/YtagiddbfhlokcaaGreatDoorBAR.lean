/- Several texts of this proof, laid together. Conditions: as each says. -/
import Derived.Test.YtagiddbfhlokcaaGreatDoorBAF
import Derived.Deep.CutBlock
import Derived.WalkMore
import Derived.Outline
import Derived.Laws.IdiomStrings
import Derived.Lib.BufferRead
/- The other package's digits and isFloat: they answer as the plain texts do. Condition: the text's length. -/
namespace Go.Proofs.YtagiddbfhlokcaaGreatDoor
open Go.RowKit
set_option maxRecDepth 100000
theorem at_cons {l : List UInt8} {k : Nat} {c : UInt8} {t : List UInt8} (e : l.drop k = c :: t) : ∃ h : k < (bs l).size, (bs l)[k] = c ∧ (k : Int) < ((bs l).size : Int) ∧ l.drop (k + 1) = t ∧ k + 1 ≤ l.length := by
  have hk : k < l.length := by
    rcases Nat.lt_or_ge k l.length with h | h
    · exact h
    · rw [List.drop_of_length_le h] at e; cases e
  have h : k < (bs l).size := by rw [bs_size]; exact hk
  rw [List.drop_eq_getElem_cons hk] at e
  injection e with e1 e2
  exact ⟨h, by rw [bs_get]; exact e1, by omega, e2, hk⟩
theorem at_nil {l : List UInt8} {k : Nat} (hk : k ≤ l.length) (e : l.drop k = []) : ¬((k : Int) < ((bs l).size : Int)) ∧ k = (bs l).size := by
  have : (l.drop k).length = 0 := by rw [e]; rfl
  simp at this
  have h2 : (bs l).size = l.length := bs_size l
  omega
theorem isDig_true {c : UInt8} (h : PF.isDig c = true) : (48 : Int) ≤ (c.toNat : Int) ∧ (c.toNat : Int) ≤ 57 := by
  simp only [PF.isDig, Bool.and_eq_true, decide_eq_true_eq] at h
  omega
theorem isDig_false {c : UInt8} (h : PF.isDig c = false) : ¬(48 : Int) ≤ (c.toNat : Int) ∨ ((48 : Int) ≤ (c.toNat : Int) ∧ ¬(c.toNat : Int) ≤ 57) := by
  simp only [PF.isDig, Bool.and_eq_false_iff, decide_eq_false_iff_not] at h
  omega
def tw (l : List UInt8) (k : Nat) : Nat := ((l.drop k).takeWhile PF.isDig).length
theorem tw_yes {l : List UInt8} {k : Nat} {c : UInt8} {t : List UInt8} (e : l.drop k = c :: t) (h : PF.isDig c = true) : tw l k = tw l (k + 1) + 1 := by
  have h2 := (at_cons e).choose_spec.2.2.1
  unfold tw
  rw [h2, e, List.takeWhile_cons, if_pos h]
  rfl
theorem tw_no {l : List UInt8} {k : Nat} {c : UInt8} {t : List UInt8} (e : l.drop k = c :: t) (h : PF.isDig c = false) : tw l k = 0 := by
  unfold tw
  rw [e, List.takeWhile_cons, if_neg (by rw [h]; decide)]
  rfl
theorem tw_end {l : List UInt8} {k : Nat} (e : l.drop k = []) : tw l k = 0 := by unfold tw; rw [e]; rfl
theorem digits79 (l : List UInt8) (i : Nat) (hl : l.length ≤ 281474976710656) (hi : i ≤ l.length) (w : World) :
    Calls Tryz.prog 79 #[.string (bs l), .int .i64 (i : Int)] w fun e w' => e = .returned (.int .i64 ((i + tw l i : Nat) : Int)) ∧ w = w' := by
  obtain ⟨m, hm⟩ : ∃ m, i + tw l i = m := ⟨_, rfl⟩
  rw [hm]
  go_enter Tryz.func79, Tryz.ntmps79
  go_wp2
  go_loopw [1] (fun v wr => ∃ k : Nat, v = .int .i64 (k : Int) ∧ k ≤ l.length ∧ k + tw l k = m ∧ w = wr) (fun v _ => match v with | .int _ k => l.length - k.toNat | _ => 0)
  case atStart => exact ⟨i, rfl, hi, hm, rfl⟩
  case round =>
    obtain ⟨k, rfl, hk, hkk, rfl⟩ := hrel
    have HKK := Lib.hid hkk
    clear hkk
    rcases list_cases (l.drop k) with e | ⟨c, t, e⟩
    · have h1 := (at_nil hk e).1
      have h0 : Hid (k = m) := Lib.hid (by rw [← HKK.out, tw_end e]; rfl)
      clear e
      go_wp2_with fail
      go_ret
      exact ⟨by rw [← h0.out]; rfl, rfl⟩
    · obtain ⟨hlt, hg, hz, hd, hk1⟩ := at_cons e
      cases hc : PF.isDig c with
      | true =>
        obtain ⟨d1, d2⟩ := isDig_true hc
        have HK2 : Hid (k + 1 + tw l (k + 1) = m) := Lib.hid (by rw [← HKK.out, tw_yes e hc]; omega)
        clear e hc hd
        go_wp2_with fail
        go_roundw
        case rel => exact ⟨k + 1, rfl, hk1, HK2.out, trivial⟩
        case measure => simp; omega
      | false =>
        have h0 : Hid (k = m) := Lib.hid (by rw [← HKK.out, tw_no e hc]; rfl)
        rcases isDig_false hc with d1 | ⟨d1, d2⟩
        · clear e hc hd
          go_wp2_with fail
          go_ret
          exact ⟨by rw [← h0.out]; rfl, rfl⟩
        · clear e hc hd
          go_wp2_with fail
          go_ret
          exact ⟨by rw [← h0.out]; rfl, rfl⟩
theorem drop_tw (l : List UInt8) (k : Nat) : l.drop (k + tw l k) = (l.drop k).dropWhile PF.isDig := by
  unfold tw
  rw [← List.drop_drop]
  have key : ∀ u : List UInt8, u.drop (u.takeWhile PF.isDig).length = u.dropWhile PF.isDig := by
    intro u
    have h := List.takeWhile_append_dropWhile (p := PF.isDig) (l := u)
    calc u.drop (u.takeWhile PF.isDig).length = (u.takeWhile PF.isDig ++ u.dropWhile PF.isDig).drop (u.takeWhile PF.isDig).length := by rw [h]
      _ = _ := List.drop_left' rfl
  exact key _
theorem tw_le (l : List UInt8) (k : Nat) (hk : k ≤ l.length) : k + tw l k ≤ l.length := by
  unfold tw
  have := take_drop_len (l.drop k)
  simp at this
  omega
theorem tw_empty (l : List UInt8) (k : Nat) : ((l.drop k).takeWhile PF.isDig).isEmpty = decide (tw l k = 0) := by
  unfold tw
  cases (l.drop k).takeWhile PF.isDig <;> simp
/-- Where the sign ends. -/
def p0 (l : List UInt8) : Nat := if PF.isNeg l then 1 else 0
theorem p0_drop (l : List UInt8) : l.drop (p0 l) = PF.body l ∧ p0 l ≤ l.length := by
  by_cases hc : ∃ r, l = 45 :: r
  · obtain ⟨r, rfl⟩ := hc
    unfold p0
    rw [(PF.body_neg r).1, (PF.body_neg r).2, if_pos rfl]
    exact ⟨rfl, by simp⟩
  · have hb := PF.body_pos (l := l) (fun r e => hc ⟨r, e⟩)
    unfold p0
    rw [hb.1, hb.2, if_neg (by decide)]
    exact ⟨rfl, by omega⟩
theorem isNeg_head (l : List UInt8) : PF.isNeg l = headIs 45 l := by
  by_cases hc : ∃ r, l = 45 :: r
  · obtain ⟨r, rfl⟩ := hc; rfl
  · rw [(PF.body_pos (l := l) (fun r e => hc ⟨r, e⟩)).2, head_no (fun t e => hc ⟨t, e⟩)]
theorem head_yes {c : UInt8} {r : List UInt8} (h : headIs c r = true) : ∃ t, r = c :: t := by
  cases r with
  | nil => cases h
  | cons a t => exact ⟨t, by rw [of_decide_eq_true h]⟩
theorem tailM_no {r : List UInt8} (h : headIs 46 r = false) : PF.tailM r = PF.tailE r := by
  unfold PF.tailM
  split
  · cases h
  · rfl
theorem tailE_no {r : List UInt8} (h : isE r = false) : PF.tailE r = r.isEmpty := by
  cases r with
  | nil => rfl
  | cons c t =>
    unfold PF.tailE
    have : (decide (c = 101) || decide (c = 69)) = false := h
    simp only [this, Bool.false_and]
    rfl
theorem tailE_yes {r : List UInt8} (h : isE r = true) : ∃ c t, r = c :: t ∧ PF.tailE r = PF.okX t := by
  cases r with
  | nil => cases h
  | cons c t =>
    refine ⟨c, t, rfl, ?_⟩
    unfold PF.tailE
    have : (decide (c = 101) || decide (c = 69)) = true := h
    simp only [this, Bool.true_and]
/-- Behind the mantissa / behind all. -/
def AtM (l : List UInt8) (R : Bool) (w : World) (v : Value) (w' : World) : Prop := ∃ p : Nat, v = .int .i64 (p : Int) ∧ p ≤ l.length ∧ PF.tailE (l.drop p) = R ∧ w = w'
def AtS (l : List UInt8) (R : Bool) (w : World) (v : Value) (w' : World) : Prop := ∃ p : Nat, v = .int .i64 (p : Int) ∧ p ≤ l.length ∧ PF.okD (l.drop p) = R ∧ w = w'
def AtE (l : List UInt8) (R : Bool) (w : World) (v : Value) (w' : World) : Prop := ∃ p : Nat, v = .int .i64 (p : Int) ∧ p ≤ l.length ∧ (l.drop p).isEmpty = R ∧ w = w'
set_option maxHeartbeats 8000000 in
theorem isFloat53 (l : List UInt8) (hl : l.length ≤ 281474976710656) (w : World) :
    Calls Tryz.prog 53 #[.string (bs l)] w fun e w' => e = .returned (.bool (PF.decB l)) ∧ w = w' := by
  obtain ⟨R, hR⟩ : ∃ R, PF.decB l = R := ⟨_, rfl⟩
  have hdec : (!((PF.body l).takeWhile PF.isDig).isEmpty && PF.tailM ((PF.body l).dropWhile PF.isDig) && decide (l.length ≤ 400)) = R := by
    rw [← hR]
    unfold PF.decB
    rw [PF.okM_parts]
  rw [hR]
  obtain ⟨hp0, hp0l⟩ := p0_drop l
  rw [← hp0, ← drop_tw, tw_empty] at hdec
  have MD := Lib.hid (fun i hi => digits79 l i hl hi)
  have HNEG := Lib.hid (isNeg_head l)
  obtain ⟨q0, hq0⟩ : ∃ q, p0 l = q := ⟨_, rfl⟩
  have HQ0 : Hid ((if PF.isNeg l then 1 else 0) = q0) := Lib.hid hq0
  rw [hq0] at hdec hp0l
  have HDEC := Lib.hid hdec
  have HSZ := Lib.hid (bs_size l)
  clear hdec hR hp0 hq0
  go_enter Tryz.func53, Tryz.ntmps53
  obtain ⟨bn, hbn⟩ : ∃ b, PF.isNeg l = b := ⟨_, rfl⟩
  rw [hbn] at HQ0 HNEG
  clear hbn
  go_upto_region 2 with (fail)
  go_cut [14] from 5 to 14 (fun v w' => v = .bool bn ∧ w = w')
  case first =>
    rcases list_cases l with e | ⟨c, t, e⟩
    · have h0 : (bs l).size = 0 := by rw [bs_size, e]; rfl
      have h0z : ¬((0 : Int) < ((bs l).size : Int)) := by omega
      have hq : bn = false := by rw [HNEG.out, e]; rfl
      subst hq
      clear e h0
      go_wp2_with fail
      go_meet
      case rel => exact ⟨rfl, rfl⟩
    · obtain ⟨hlt, hg, hem, h0i, h1i, htl⟩ := bs_head e
      by_cases h45 : c = 45
      · have c45 : ((c.toNat : Int) == 45) = true := byte_eq c 45 (by decide) h45
        have hq : bn = true := by rw [HNEG.out, e, h45]; rfl
        subst hq
        clear e htl h45
        go_wp2_with fail
        go_meet
        case rel => exact ⟨rfl, rfl⟩
      · have c45 : ((c.toNat : Int) == 45) = false := byte_ne c 45 (by decide) h45
        have hq : bn = false := by rw [HNEG.out, e]; simp [headIs, h45]
        subst hq
        clear e htl h45
        go_wp2_with fail
        go_meet
        case rel => exact ⟨rfl, rfl⟩
  case rest =>
   obtain ⟨rfl, rfl⟩ := hcut
   go_upto_if 14 with (fail)
   go_cut [3] from 15 to 16 (fun v w' => v = .int .i64 (q0 : Int) ∧ w = w')
   case first =>
    cases bn with
    | true =>
      have hq : q0 = 1 := HQ0.out.symm
      subst hq
      go_wp2_with fail
      go_meet
      case rel => exact ⟨rfl, rfl⟩
    | false =>
      have hq : q0 = 0 := HQ0.out.symm
      subst hq
      go_wp2_with fail
      go_meet
      case rel => exact ⟨rfl, rfl⟩
   case rest =>
    obtain ⟨rfl, rfl⟩ := hcut
    have htl := tw_le l q0 hp0l
    obtain ⟨n, hn⟩ : ∃ n, tw l q0 = n := ⟨_, rfl⟩
    have M := Lib.hid (MD.out q0 hp0l w)
    rw [hn] at htl HDEC M
    obtain ⟨q, hq⟩ : ∃ q, q0 + n = q := ⟨_, rfl⟩
    rw [hq] at htl HDEC M
    go_wp2_with fail
    refine M.out.mono ?_
    rintro e w' ⟨rfl, rfl⟩
    by_cases hq1 : q = q0
    · have hqz : ((q : Int) == (q0 : Int)) = true := by simp; omega
      obtain rfl : false = R := by rw [← HDEC.out]; rw [show n = 0 by omega]; rfl
      clear hq1 hq
      go_wp2_with fail
      go_ret
      exact ⟨rfl, rfl⟩
    · have hqz : ((q : Int) == (q0 : Int)) = false := by rw [beq_eq_false_iff_ne]; omega
      by_cases h400 : 400 < l.length
      · have h400z : (400 : Int) < ((bs l).size : Int) := by have := HSZ.out; omega
        obtain rfl : false = R := by rw [← HDEC.out]; simp; omega
        clear hq1 hq
        go_wp2_with fail
        go_ret
        exact ⟨rfl, rfl⟩
      · have h400z : ¬((400 : Int) < ((bs l).size : Int)) := by have := HSZ.out; omega
        have hm : PF.tailM (l.drop q) = R := by
          rw [← HDEC.out]
          have : ¬(n = 0) := by omega
          have h4 : l.length ≤ 400 := by omega
          simp [this, h4]
        have HM := Lib.hid hm
        clear HDEC hm hq1 hq hn
        obtain ⟨b46, hb46⟩ : ∃ b, headIs 46 (l.drop q) = b := ⟨_, rfl⟩
        have H46 := Lib.hid hb46
        clear hb46
        go_upto_region 8 with (fail)
        go_cut [38] from 29 to 38 (fun v w' => v = .bool b46 ∧ w = w')
        case first =>
          have h46 := H46.out
          rcases list_cases (l.drop q) with e | ⟨c, t, e⟩
          · have h1 := (at_nil htl e).1
            rw [e] at h46
            obtain rfl : false = b46 := h46
            clear e
            go_wp2_with fail
            go_meet
            case rel => exact ⟨rfl, rfl⟩
          · obtain ⟨hlt, hg, hz, hd, hk1⟩ := at_cons e
            rw [e] at h46
            clear e hd
            by_cases hc : c = 46
            · have c46 : ((c.toNat : Int) == 46) = true := byte_eq c 46 (by decide) hc
              obtain rfl : true = b46 := by rw [← h46, hc]; rfl
              clear h46 hc
              go_wp2_with fail
              go_meet
              case rel => exact ⟨rfl, rfl⟩
            · have c46 : ((c.toNat : Int) == 46) = false := byte_ne c 46 (by decide) hc
              obtain rfl : false = b46 := by rw [← h46]; simp [headIs, hc]
              clear h46 hc
              go_wp2_with fail
              go_meet
              case rel => exact ⟨rfl, rfl⟩
        case rest =>
         obtain ⟨rfl, rfl⟩ := hcut
         go_upto_if 38 with (fail)
         go_cut [3, 4] from 39 to 47 (fun v z w' => (∃ y : Int, z = .int .i64 y) ∧ AtM l R w v w')
         case first =>
          cases b46 with
          | true =>
            obtain ⟨t, e⟩ := head_yes H46.out
            obtain ⟨hlt, hg, hz, hd, hk1⟩ := at_cons e
            have hm := HM.out
            rw [e] at hm
            have hm2 : (!(t.takeWhile PF.isDig).isEmpty && PF.tailE (t.dropWhile PF.isDig)) = R := hm
            rw [← hd, ← drop_tw, tw_empty] at hm2
            have htl2 := tw_le l (q + 1) hk1
            have M := Lib.hid (MD.out (q + 1) hk1 w)
            obtain ⟨n2, hn2⟩ : ∃ n, tw l (q + 1) = n := ⟨_, rfl⟩
            rw [hn2] at hm2 htl2 M
            obtain ⟨q2, hq2⟩ : ∃ q2, q + 1 + n2 = q2 := ⟨_, rfl⟩
            rw [hq2] at hm2 htl2 M
            have HM2 := Lib.hid hm2
            have HQ2 := Lib.hid hq2
            clear hm hm2 hn2 e hd hq2
            simp only [Int.natCast_add, Int.cast_ofNat_Int] at M
            go_wp2_with fail
            refine M.out.mono ?_
            rintro e w' ⟨rfl, rfl⟩
            have hq2 := HQ2.out
            by_cases hnz : n2 = 0
            · have hqz : ((q2 : Int) == (q : Int) + 1) = true := by simp; omega
              obtain rfl : false = R := by rw [← HM2.out, hnz]; rfl
              clear hnz hq2
              go_wp2_with fail
              go_ret
              exact ⟨rfl, rfl⟩
            · have hqz : ((q2 : Int) == (q : Int) + 1) = false := by rw [beq_eq_false_iff_ne]; omega
              have HM3 : Hid (PF.tailE (l.drop q2) = R) := Lib.hid (by rw [← HM2.out]; simp [hnz])
              clear hnz hq2
              go_wp2_with fail
              go_meet
              case rel => exact ⟨⟨_, rfl⟩, q2, rfl, htl2, HM3.out, rfl⟩
          | false =>
            have HM2 : Hid (PF.tailE (l.drop q) = R) := Lib.hid (by rw [← HM.out, tailM_no H46.out])
            go_wp2_with fail
            go_meet
            case rel => exact ⟨⟨_, rfl⟩, q, rfl, htl, HM2.out, rfl⟩
         case rest =>
          clear HM H46
          obtain ⟨⟨y, rfl⟩, p, rfl, hp, hr, rfl⟩ := hcut
          have HR := Lib.hid hr
          obtain ⟨bE, hbE⟩ : ∃ b, isE (l.drop p) = b := ⟨_, rfl⟩
          have HBE := Lib.hid hbE
          clear hr hbE
          go_upto_region 13 with (fail)
          go_cut [63] from 48 to 63 (fun v w' => v = .bool bE ∧ w = w')
          case first =>
            have hbe := HBE.out
            rcases list_cases (l.drop p) with e | ⟨c, t, e⟩
            · have h1 := (at_nil hp e).1
              rw [e] at hbe
              obtain rfl : false = bE := hbe
              clear e
              go_wp2_with fail
              go_meet
              case rel => exact ⟨rfl, rfl⟩
            · obtain ⟨hlt, hg, hz, hd, hk1⟩ := at_cons e
              rw [e] at hbe
              clear e hd
              by_cases hc : c = 101
              · have c1 : ((c.toNat : Int) == 101) = true := byte_eq c 101 (by decide) hc
                obtain rfl : true = bE := by rw [← hbe, hc]; rfl
                clear hbe hc
                go_wp2_with fail
                go_meet
                case rel => exact ⟨rfl, rfl⟩
              · have c1 : ((c.toNat : Int) == 101) = false := byte_ne c 101 (by decide) hc
                by_cases hc2 : c = 69
                · have c2 : ((c.toNat : Int) == 69) = true := byte_eq c 69 (by decide) hc2
                  obtain rfl : true = bE := by rw [← hbe, hc2]; rfl
                  clear hbe hc hc2
                  go_wp2_with fail
                  go_meet
                  case rel => exact ⟨rfl, rfl⟩
                · have c2 : ((c.toNat : Int) == 69) = false := byte_ne c 69 (by decide) hc2
                  obtain rfl : false = bE := by rw [← hbe]; simp [isE, hc, hc2]
                  clear hbe hc hc2
                  go_wp2_with fail
                  go_meet
                  case rel => exact ⟨rfl, rfl⟩
          case rest =>
           obtain ⟨rfl, rfl⟩ := hcut
           go_upto_if 63 with (fail)
           go_cut [3, 4] from 64 to 90 (fun v z w' => (∃ y : Int, z = .int .i64 y) ∧ AtE l R w v w')
           case first =>
            cases bE with
            | false =>
              have HE2 : Hid ((l.drop p).isEmpty = R) := Lib.hid (by rw [← HR.out, tailE_no HBE.out])
              go_wp2_with fail
              go_meet
              case rel => exact ⟨⟨_, rfl⟩, p, rfl, hp, HE2.out, rfl⟩
            | true =>
              obtain ⟨c, t, e, hte⟩ := tailE_yes HBE.out
              obtain ⟨hlt, hg, hz, hd, hk1⟩ := at_cons e
              rw [hte, ← hd] at HR
              obtain ⟨bS, hbS⟩ : ∃ b, isS (l.drop (p + 1)) = b := ⟨_, rfl⟩
              have HBS := Lib.hid hbS
              clear e hte hd hbS
              obtain ⟨p1, hp1⟩ : ∃ p1, p + 1 = p1 := ⟨_, rfl⟩
              have hp1z : (p : Int) + 1 = (p1 : Int) := by omega
              rw [hp1] at HR HBS hk1
              have hp1s : (p1 : Int) ≤ 281474976710656 := by omega
              clear hp1
              go_upto_region 15 with (fail)
              go_cut [81] from 66 to 81 (fun v w' => v = .bool bS ∧ w = w')
              case first =>
                have hbs := HBS.out
                rcases list_cases (l.drop p1) with e | ⟨c, t, e⟩
                · have h1 := (at_nil hk1 e).1
                  rw [e] at hbs
                  obtain rfl : false = bS := hbs
                  clear e
                  go_wp2_with fail
                  go_meet
                  case rel => exact ⟨rfl, rfl⟩
                · obtain ⟨hlt, hg, hz, hd, hk1⟩ := at_cons e
                  rw [e] at hbs
                  clear e hd
                  by_cases hc : c = 43
                  · have c1 : ((c.toNat : Int) == 43) = true := byte_eq c 43 (by decide) hc
                    obtain rfl : true = bS := by rw [← hbs, hc]; rfl
                    clear hbs hc
                    go_wp2_with fail
                    go_meet
                    case rel => exact ⟨rfl, rfl⟩
                  · have c1 : ((c.toNat : Int) == 43) = false := byte_ne c 43 (by decide) hc
                    by_cases hc2 : c = 45
                    · have c2 : ((c.toNat : Int) == 45) = true := byte_eq c 45 (by decide) hc2
                      obtain rfl : true = bS := by rw [← hbs, hc2]; rfl
                      clear hbs hc hc2
                      go_wp2_with fail
                      go_meet
                      case rel => exact ⟨rfl, rfl⟩
                    · have c2 : ((c.toNat : Int) == 45) = false := byte_ne c 45 (by decide) hc2
                      obtain rfl : false = bS := by rw [← hbs]; simp [isS, hc, hc2]
                      clear hbs hc hc2
                      go_wp2_with fail
                      go_meet
                      case rel => exact ⟨rfl, rfl⟩
              case rest =>
                obtain ⟨rfl, rfl⟩ := hcut
                go_upto_if 81 with (fail)
                go_cut [3] from 82 to 83 (fun v w' => AtS l R w v w')
                case first =>
                  cases bS with
                  | false =>
                    have HS2 : Hid (PF.okD (l.drop p1) = R) := Lib.hid (by rw [← HR.out, okX_strip, strip_no HBS.out])
                    go_wp2_with fail
                    go_meet
                    case rel => exact ⟨p1, rfl, hk1, HS2.out, rfl⟩
                  | true =>
                    obtain ⟨d, u, e, hst⟩ := strip_yes HBS.out
                    obtain ⟨hlt, hg, hz, hd, hk1⟩ := at_cons e
                    have HS2 : Hid (PF.okD (l.drop (p1 + 1)) = R) := Lib.hid (by rw [← HR.out, okX_strip, hst, hd])
                    clear e hd hst
                    go_wp2_with fail
                    go_meet
                    case rel => exact ⟨p1 + 1, rfl, hk1, HS2.out, rfl⟩
                case rest =>
                  obtain ⟨p2, rfl, hp2, hok, rfl⟩ := hcut
                  rw [okD_parts, ← drop_tw, tw_empty] at hok
                  have htl2 := tw_le l p2 hp2
                  have M := Lib.hid (MD.out p2 hp2 w)
                  obtain ⟨n2, hn2⟩ : ∃ n, tw l p2 = n := ⟨_, rfl⟩
                  rw [hn2] at hok htl2 M
                  obtain ⟨q2, hq2⟩ : ∃ q2, p2 + n2 = q2 := ⟨_, rfl⟩
                  rw [hq2] at hok htl2 M
                  have HOK := Lib.hid hok
                  clear hok hn2
                  go_wp2_with fail
                  refine M.out.mono ?_
                  rintro e w' ⟨rfl, rfl⟩
                  by_cases hnz : n2 = 0
                  · have hqz : ((q2 : Int) == (p2 : Int)) = true := by simp; omega
                    obtain rfl : false = R := by rw [← HOK.out, hnz]; rfl
                    clear hnz hq2
                    go_wp2_with fail
                    go_ret
                    exact ⟨rfl, rfl⟩
                  · have hqz : ((q2 : Int) == (p2 : Int)) = false := by rw [beq_eq_false_iff_ne]; omega
                    have HM3 : Hid ((l.drop q2).isEmpty = R) := Lib.hid (by rw [← HOK.out]; simp [hnz])
                    clear hnz hq2
                    go_wp2_with fail
                    go_meet
                    case rel => exact ⟨⟨_, rfl⟩, q2, rfl, htl2, HM3.out, rfl⟩
           case rest =>
            obtain ⟨⟨y, rfl⟩, p, rfl, hp, hr, rfl⟩ := hcut
            rcases list_cases (l.drop p) with e | ⟨c, t, e⟩
            · have h2 := (at_nil hp e).2
              obtain rfl : true = R := by rw [← hr, e]; rfl
              have hz : ((p : Int) == ((bs l).size : Int)) = true := by simp; omega
              clear e hr h2
              go_wp2_with fail
              go_ret
              exact ⟨rfl, rfl⟩
            · obtain ⟨hlt, hg, hz, hd, hk1⟩ := at_cons e
              obtain rfl : false = R := by rw [← hr, e]; rfl
              have hz : ((p : Int) == ((bs l).size : Int)) = false := by rw [beq_eq_false_iff_ne]; omega
              clear e hd hr
              go_wp2_with fail
              go_ret
              exact ⟨rfl, rfl⟩
end Go.Proofs.YtagiddbfhlokcaaGreatDoor
/- The other package's in and unquoted. Condition: the text's length. -/
namespace Go.Proofs.YtagiddbfhlokcaaGreatDoor
open Go.RowKit
set_option maxRecDepth 100000
theorem in51 (L : List (List UInt8)) (l : List UInt8) (g : Nat) (w : World) (hL : ∀ k (h : k < L.length), w.cell? ⟨g, k, none⟩ = some (.string (bs L[k]))) (hn : L.length ≤ 1000) :
    Calls Tryz.prog 51 #[.slice (some ⟨g, 0, none⟩) L.length L.length, .string (bs l)] w fun e w' => e = .returned (.bool (decide (l ∈ L))) ∧ w = w' := by
  obtain ⟨b, hb⟩ : ∃ b, decide (l ∈ L) = b := ⟨_, rfl⟩
  rw [hb]
  have HL := Lib.hid hL
  clear hL
  obtain ⟨n, hnn⟩ : ∃ n, L.length = n := ⟨_, rfl⟩
  have HN := Lib.hid hnn
  rw [hnn] at hn ⊢
  clear hnn
  go_enter Tryz.func51, Tryz.ntmps51
  go_wp2
  go_loopw [8] (fun v wr => ∃ k : Nat, v = .int .i64 (k : Int) ∧ k ≤ n ∧ decide (l ∈ L.drop k) = b ∧ w = wr) (fun v _ => match v with | .int _ k => n - k.toNat | _ => 0)
  case atStart => exact ⟨0, rfl, by omega, hb, rfl⟩
  case round =>
    obtain ⟨k, rfl, hk, hkk, rfl⟩ := hrel
    have HKK := Lib.hid hkk
    clear hkk
    by_cases hkn : k < n
    · have hkz : (k : Int) < (n : Int) := by omega
      have hkL : k < L.length := by rw [HN.out]; exact hkn
      have c0 := HL.out k hkL
      have hd := List.drop_eq_getElem_cons hkL
      obtain ⟨u, hu⟩ : ∃ u, L[k] = u := ⟨_, rfl⟩
      rw [hu] at c0 hd
      have HD := Lib.hid hd
      clear hd hu hkL
      by_cases hul : u = l
      · have ht : ((bs u).toList == (bs l).toList) = true := by rw [hul]; simp
        obtain rfl : true = b := by rw [← HKK.out, HD.out, hul]; simp
        clear hul
        go_wp2_with fail
        go_ret
        exact ⟨rfl, rfl⟩
      · have ht : ((bs u).toList == (bs l).toList) = false := by rw [bs_toList, bs_toList, beq_eq_false_iff_ne]; exact hul
        have HK2 : Hid (decide (l ∈ L.drop (k + 1)) = b) := Lib.hid (by rw [← HKK.out, HD.out]; simp [Ne.symm hul])
        clear hul
        go_wp2_with fail
        go_roundw
        case rel => exact ⟨k + 1, rfl, by omega, HK2.out, trivial⟩
        case measure => simp; omega
    · have hkz : ¬((k : Int) < (n : Int)) := by omega
      obtain rfl : false = b := by rw [← HKK.out, List.drop_of_length_le (by rw [HN.out]; omega)]; simp
      go_wp2_with fail
      go_ret
      exact ⟨rfl, rfl⟩
theorem info5c : (Tryz.prog.info? 5).map (fun i => (i.zero, i.size, i.bytes)) = some (some (.int .u8 0), 1, 1) := by kernel_rfl
theorem one_cell (w : World) (v : Value) : ∀ j u, [v][j]? = some u → (w.alloc (.cells #[v] 5 (0, 0))).cell? ((⟨w.heap.size, 0, none⟩ : Addr).add j) = some u := by
  intro j u hj
  match j, hj with
  | 0, hj => simp at hj; subst hj; simp [Addr.add]
theorem conv_bytes {w : World} {B : Nat} {v : Value} {l : List UInt8} (h : w.ownsRow B 5 1 v l.length (Lib.byteCells l)) : (convert 59 9 v).run Tryz.prog w = .ok (.string (bs l)) w := by
  rcases h.2 with ⟨rfl, h0⟩ | ⟨g, cap, cur, rfl, _, hg, _, _, _, htk⟩
  · obtain rfl := List.eq_nil_of_length_eq_zero h0
    exact Lib.run_convert_nil_bytes w 59 9 5 0 Tryz.underlying59 Tryz.underlying5 Tryz.underlying9
  · rw [Nat.mul_one] at htk
    exact run_convert_bytes_back w 59 9 5 ⟨g, 0, none⟩ cap l Tryz.underlying59 Tryz.underlying5 Tryz.underlying9 (Lib.bytes_of_row hg htk)
theorem unq_last : ∀ (r : List UInt8), PF.unq r ≠ none → ∃ m, r = m ++ [34]
  | [], h => absurd rfl h
  | [c], h => by
    unfold PF.unq at h
    split at h
    · rename_i hc; exact ⟨[], by rw [hc]; rfl⟩
    · exact absurd rfl h
  | c :: d :: r, h => by
    unfold PF.unq at h
    split at h
    · exact absurd rfl h
    · split at h
      · split at h
        · obtain ⟨m, rfl⟩ := unq_last r (by intro e; rw [e] at h; exact h rfl)
          exact ⟨c :: d :: m, rfl⟩
        · split at h
          · obtain ⟨m, rfl⟩ := unq_last r (by intro e; rw [e] at h; exact h rfl)
            exact ⟨c :: d :: m, rfl⟩
          · exact absurd rfl h
      · obtain ⟨m, hm⟩ := unq_last (d :: r) (by intro e; rw [e] at h; exact h rfl)
        exact ⟨c :: m, by rw [hm]; rfl⟩
/-- What stands between quotes, as the result. -/
def uqR (o : Option (List UInt8)) : Value := match o with
  | none => .tuple #[.string ⟨#[]⟩, .bool false]
  | some t => .tuple #[.string (bs t), .bool true]
def InUq (r m : List UInt8) (w : World) (v i : Value) (wr : World) : Prop :=
  ∃ (k : Nat) (l : List UInt8), i = .int .i64 (k : Int) ∧ k ≤ m.length ∧ PF.unq r = (PF.unq (m.drop k ++ [34])).map (l ++ ·) ∧ l.length ≤ k ∧ wr.ownsRow w.heap.size 5 1 v l.length (Lib.byteCells l) ∧ Below w.heap.size w wr
def up (n : Nat) : Value → Nat
  | .int _ k => n - k.toNat
  | _ => 0
theorem mid_text (a : UInt8) (m : List UInt8) (c : UInt8) : (bs (a :: (m ++ [c]))).extract 1 (m.length + 1) = bs m := by
  apply ByteArray.ext
  apply Array.toList_inj.1
  rw [Lib.extract_data, bs_list, bs_list]
  simp
set_option maxHeartbeats 4000000 in
theorem unquoted52 (r : List UInt8) (hr : r.length ≤ 140737488355327) (w : World) : Calls Tryz.prog 52 #[.string (bs (34 :: r))] w fun e w' => e = .returned (uqR (PF.unq r)) ∧ Below w.heap.size w w' := by
  obtain ⟨i0, hi, hz0, hz1, hz2⟩ := info_parts info5c
  obtain ⟨hsz0, hg0, hem0, h0i0, h1i0, htl0⟩ := bs_head (r := 34 :: r) rfl
  have hsl : (bs (34 :: r)).size = r.length + 1 := by rw [bs_size]; rfl
  have HSL := Lib.hid hsl
  rcases List.eq_nil_or_concat r with e | ⟨m, c, e⟩
  · have h2 : ((bs (34 :: r)).size : Int) < 2 := by rw [e] at hsl ⊢; simp at hsl; omega
    have HU : Hid (PF.unq r = none) := Lib.hid (by rw [e]; rfl)
    clear e hsl
    go_enter Tryz.func52, Tryz.ntmps52
    go_wp2_with fail
    go_ret2
    exact ⟨by rw [HU.out]; rfl, Below.refl _ _⟩
  · rw [List.concat_eq_append] at e
    have hml : r.length = m.length + 1 := by rw [e]; simp
    have h2 : ¬((bs (34 :: r)).size : Int) < 2 := by omega
    have hli : ((bs (34 :: r)).size : Int) - 1 = ((m.length + 1 : Nat) : Int) := by omega
    have hlt : m.length + 1 < (bs (34 :: r)).size := by omega
    have hlast : (bs (34 :: r))[m.length + 1] = c := by
      rw [bs_get]
      simp [e]
    have hmid := mid_text 34 m c
    rw [← e] at hmid
    have hltz : ((m.length + 1 : Nat) : Int) < ((bs (34 :: r)).size : Int) := by omega
    have hmlz : (1 : Int) ≤ ((m.length + 1 : Nat) : Int) := by omega
    have hlez : ((m.length + 1 : Nat) : Int) ≤ ((bs (34 :: r)).size : Int) := by omega
    obtain ⟨L, hL⟩ : ∃ L, bs (34 :: r) = L := ⟨_, rfl⟩
    obtain ⟨n, hn⟩ : ∃ n, m.length + 1 = n := ⟨_, rfl⟩
    have HE := Lib.hid e
    have HN := Lib.hid hn
    simp only [hL, hn] at *
    clear e hsl
    by_cases hc : c = 34
    · have HUM : Hid (r = m ++ [34]) := Lib.hid (by rw [HE.out, hc])
      have c34 : ((c.toNat : Int) == 34) = true := byte_eq c 34 (by decide) hc
      clear hc
      go_enter Tryz.func52, Tryz.ntmps52
      go_wp2_with fail
      clear hlast hmid hltz hmlz hlez hlt hli hg0 htl0 hem0 h0i0 h1i0 hsz0 c34
      go_loopw [4, 5] (fun v i wr => InUq r m w v i wr) (fun _ i _ => up m.length i)
      case atStart => exact ⟨0, [], rfl, by omega, by rw [HUM.out, List.drop_zero]; cases PF.unq (m ++ [34]) <;> rfl, by simp, World.ownsRow_nil _ _ _ _, Below.refl _ _⟩
      case round =>
        obtain ⟨k, l, rfl, hk, hun, hlk, hown, hb⟩ := hrel
        have HOWN := Lib.hid hown
        have HB := Lib.hid hb
        have HUN := Lib.hid hun
        clear hown hb hun
        rcases list_cases (m.drop k) with e | ⟨c, t, e⟩
        · have h1 := (at_nil hk e).1
          have HU2 : Hid (PF.unq r = some l) := Lib.hid (by rw [HUN.out, e]; simp [PF.unq])
          have HCV := Lib.hid (conv_bytes HOWN.out)
          have hcv := HCV.out
          clear e
          go_wp2_with fail
          go_ret2
          exact ⟨by rw [HU2.out]; rfl, HB.out⟩
        · obtain ⟨hlt, hg, hz, hd, hk1⟩ := at_cons e
          rw [e] at HUN
          by_cases h34 : c = 34
          · have c34 : ((c.toNat : Int) == 34) = true := byte_eq c 34 (by decide) h34
            have HU2 : Hid (PF.unq r = none) := Lib.hid (by
              rw [HUN.out, h34]
              cases t with
              | nil => rfl
              | cons d u => rw [List.cons_append, List.cons_append, unq_close]; rfl)
            clear e hd h34
            go_wp2_with fail
            go_ret2
            exact ⟨by rw [HU2.out]; rfl, HB.out⟩
          · have c34 : ((c.toNat : Int) == 34) = false := byte_ne c 34 (by decide) h34
            by_cases h10 : c = 10
            · have c10 : ((c.toNat : Int) == 10) = true := byte_eq c 10 (by decide) h10
              have HU2 : Hid (PF.unq r = none) := Lib.hid (by rw [HUN.out, h10, List.cons_append, unq_line]; rfl)
              clear e hd h34 h10
              go_wp2_with fail
              go_ret2
              exact ⟨by rw [HU2.out]; rfl, HB.out⟩
            · have c10 : ((c.toNat : Int) == 10) = false := byte_ne c 10 (by decide) h10
              by_cases h92 : c = 92
              · have c92 : ((c.toNat : Int) == 92) = true := byte_eq c 92 (by decide) h92
                rw [h92] at HUN
                rcases list_cases t with e2 | ⟨d, u, e2⟩
                · have hk1e : m.drop (k + 1) = [] := by rw [hd, e2]
                  have h2 := (at_nil hk1 hk1e).1
                  have h2z : ((bs m).size : Int) ≤ (k : Int) + 1 := by omega
                  have HU2 : Hid (PF.unq r = none) := Lib.hid (by rw [HUN.out, e2]; rfl)
                  clear e hd h34 h10 h92 e2 hk1e h2
                  go_wp2_with fail
                  go_ret2
                  exact ⟨by rw [HU2.out]; rfl, HB.out⟩
                · have hk1e : m.drop (k + 1) = d :: u := by rw [hd, e2]
                  obtain ⟨k1, hk1n⟩ : ∃ k1, k + 1 = k1 := ⟨_, rfl⟩
                  have hk1z : (k : Int) + 1 = (k1 : Int) := by omega
                  rw [hk1n] at hk1e
                  obtain ⟨hlt2, hg2, hz2', hd2, hk2⟩ := at_cons hk1e
                  rw [e2] at HUN
                  have hnot : ¬((bs m).size : Int) ≤ (k1 : Int) := by omega
                  have hlk1 : l.length ≤ k1 := by omega
                  have hkk1 : k < k1 := by omega
                  have hunq := unq_esc d (u ++ [34])
                  clear e hd h34 h10 h92 e2 hk1e hk1n
                  by_cases d34 : d = 34
                  · have HU3 : Hid (PF.unq r = ((PF.unq (m.drop (k1 + 1) ++ [34])).map (34 :: ·)).map (l ++ ·)) := Lib.hid (by rw [HUN.out, List.cons_append, List.cons_append, hunq, if_pos (.inl d34), hd2, d34])
                    clear hunq hd2 HUN
                    subst d34
                    go_wp2_with (at_builtin; refine wpList_append_own _ rfl _ _ 59 rfl w.heap.size 5 i0 (.int .u8 0) 1 1 Tryz.underlying59 hi hz0 hz1 hz2 rfl (by decide) _ _ _ rfl (HOWN.out.alloc _) ⟨wr.heap.size, 0, none⟩ 1 1 [.int .u8 34] rfl rfl (one_cell _ _) (by intro u hu; simp at hu; subst hu; rfl) (by unfold maxLen; omega) (by omega) (by have := HB.out.size; simp; omega) ?_)
                    intro v' w2 hown' hgrow _
                    have HOWN2 := Lib.hid hown'
                    have HB2 := Lib.hid ((HB.out.alloc (by have := HB.out.size; omega) _).grown hgrow (by have := HB.out.size; simp; omega) (fun j hj => (HOWN.out.lt j hj).1))
                    clear hown' hgrow
                    go_wp2_with fail
                    go_roundw
                    case rel => exact ⟨k1 + 1, l ++ [34], rfl, by omega, by rw [HU3.out, map_app], by simp; omega, by rw [byteCells_app]; simpa using HOWN2.out, HB2.out⟩
                    case measure => simp [up]; omega
                  · by_cases d92 : d = 92
                    · have HU3 : Hid (PF.unq r = ((PF.unq (m.drop (k1 + 1) ++ [34])).map (92 :: ·)).map (l ++ ·)) := Lib.hid (by rw [HUN.out, List.cons_append, List.cons_append, hunq, if_pos (.inr d92), hd2, d92])
                      clear d34 hunq hd2 HUN
                      subst d92
                      go_wp2_with (at_builtin; refine wpList_append_own _ rfl _ _ 59 rfl w.heap.size 5 i0 (.int .u8 0) 1 1 Tryz.underlying59 hi hz0 hz1 hz2 rfl (by decide) _ _ _ rfl (HOWN.out.alloc _) ⟨wr.heap.size, 0, none⟩ 1 1 [.int .u8 92] rfl rfl (one_cell _ _) (by intro u hu; simp at hu; subst hu; rfl) (by unfold maxLen; omega) (by omega) (by have := HB.out.size; simp; omega) ?_)
                      intro v' w2 hown' hgrow _
                      have HOWN2 := Lib.hid hown'
                      have HB2 := Lib.hid ((HB.out.alloc (by have := HB.out.size; omega) _).grown hgrow (by have := HB.out.size; simp; omega) (fun j hj => (HOWN.out.lt j hj).1))
                      clear hown' hgrow
                      go_wp2_with fail
                      go_roundw
                      case rel => exact ⟨k1 + 1, l ++ [92], rfl, by omega, by rw [HU3.out, map_app], by simp; omega, by rw [byteCells_app]; simpa using HOWN2.out, HB2.out⟩
                      case measure => simp [up]; omega
                    · by_cases d110 : d = 110
                      · have HU3 : Hid (PF.unq r = ((PF.unq (m.drop (k1 + 1) ++ [34])).map (10 :: ·)).map (l ++ ·)) := Lib.hid (by rw [HUN.out, List.cons_append, List.cons_append, hunq, if_neg (by simp [d34, d92]), if_pos d110, hd2])
                        clear d34 d92 hunq hd2 HUN
                        subst d110
                        go_wp2_with (at_builtin; refine wpList_append_own _ rfl _ _ 59 rfl w.heap.size 5 i0 (.int .u8 0) 1 1 Tryz.underlying59 hi hz0 hz1 hz2 rfl (by decide) _ _ _ rfl (HOWN.out.alloc _) ⟨wr.heap.size, 0, none⟩ 1 1 [.int .u8 10] rfl rfl (one_cell _ _) (by intro u hu; simp at hu; subst hu; rfl) (by unfold maxLen; omega) (by omega) (by have := HB.out.size; simp; omega) ?_)
                        intro v' w2 hown' hgrow _
                        have HOWN2 := Lib.hid hown'
                        have HB2 := Lib.hid ((HB.out.alloc (by have := HB.out.size; omega) _).grown hgrow (by have := HB.out.size; simp; omega) (fun j hj => (HOWN.out.lt j hj).1))
                        clear hown' hgrow
                        go_wp2_with fail
                        go_roundw
                        case rel => exact ⟨k1 + 1, l ++ [10], rfl, by omega, by rw [HU3.out, map_app], by simp; omega, by rw [byteCells_app]; simpa using HOWN2.out, HB2.out⟩
                        case measure => simp [up]; omega
                      · have f34 : ((d.toNat : Int) != 34) = true := by show (!((d.toNat : Int) == 34)) = true; rw [show ((d.toNat : Int) == 34) = false from byte_ne d 34 (by decide) d34]; rfl
                        have f92 : ((d.toNat : Int) != 92) = true := by show (!((d.toNat : Int) == 92)) = true; rw [show ((d.toNat : Int) == 92) = false from byte_ne d 92 (by decide) d92]; rfl
                        have f110 : ((d.toNat : Int) != 110) = true := by show (!((d.toNat : Int) == 110)) = true; rw [show ((d.toNat : Int) == 110) = false from byte_ne d 110 (by decide) d110]; rfl
                        have HU3 : Hid (PF.unq r = none) := Lib.hid (by rw [HUN.out, List.cons_append, List.cons_append, hunq, if_neg (by simp [d34, d92]), if_neg d110]; rfl)
                        clear d34 d92 d110 hunq hd2 HUN
                        go_wp2_with fail
                        go_ret2
                        exact ⟨by rw [HU3.out]; rfl, HB.out⟩
              · have c92 : ((c.toNat : Int) == 92) = false := byte_ne c 92 (by decide) h92
                have HU3 : Hid (PF.unq r = ((PF.unq (m.drop (k + 1) ++ [34])).map (c :: ·)).map (l ++ ·)) := Lib.hid (by rw [HUN.out, List.cons_append, unq_plain c _ h34 h10 h92, hd])
                clear e hd h34 h10 h92
                go_wp2_with (at_builtin; refine wpList_append_own _ rfl _ _ 59 rfl w.heap.size 5 i0 (.int .u8 0) 1 1 Tryz.underlying59 hi hz0 hz1 hz2 rfl (by decide) _ _ _ rfl (HOWN.out.alloc _) ⟨wr.heap.size, 0, none⟩ 1 1 [.int .u8 c.toNat] rfl rfl (one_cell _ _) (by intro u hu; simp at hu; subst hu; rfl) (by unfold maxLen; omega) (by omega) (by have := HB.out.size; simp; omega) ?_)
                intro v' w2 hown' hgrow _
                have HOWN2 := Lib.hid hown'
                have HB2 := Lib.hid ((HB.out.alloc (by have := HB.out.size; omega) _).grown hgrow (by have := HB.out.size; simp; omega) (fun j hj => (HOWN.out.lt j hj).1))
                clear hown' hgrow
                go_wp2_with fail
                go_roundw
                case rel => exact ⟨k + 1, l ++ [c], rfl, by omega, by rw [HU3.out, map_app], by simp; omega, by rw [byteCells_app]; simpa using HOWN2.out, HB2.out⟩
                case measure => simp [up]; omega
    · have HU : Hid (PF.unq r = none) := Lib.hid (by
        by_cases h : PF.unq r = none
        · exact h
        · obtain ⟨m2, e2⟩ := unq_last r h
          rw [HE.out] at e2
          have := congrArg List.getLast? e2
          simp at this
          exact absurd this hc)
      have c34 : ((c.toNat : Int) == 34) = false := byte_ne c 34 (by decide) hc
      clear hc
      go_enter Tryz.func52, Tryz.ntmps52
      go_wp2_with fail
      go_ret2
      exact ⟨by rw [HU.out]; rfl, Below.refl _ _⟩
end Go.Proofs.YtagiddbfhlokcaaGreatDoor
