/- Several texts of this proof, laid together. Conditions: as each says. -/
import Derived.Test.YtagiddbfhlokcaaGreatDoorBAR
import Derived.Test.YtagiddbfhlokcaaGreatDoorBAQ
import Derived.Test.YtagiddbfhlokcaaGreatDoorBAF
/- The other package's Whole, Int, Parse. Condition: the text's length; strconv's tables. -/
namespace Go.Proofs.YtagiddbfhlokcaaGreatDoor
open Go.RowKit
set_option maxRecDepth 100000
/-- A number behind perhaps a sign, in 64 bits. -/
def wholeP (l : List UInt8) : Int × Bool :=
  if PF.isNeg l then (if PF.numD (PF.body l) ≤ 9223372036854775808 then (-(PF.numD (PF.body l) : Int), true) else (0, false))
  else (if PF.numD (PF.body l) < 9223372036854775808 then ((PF.numD (PF.body l) : Int), true) else (0, false))
def InWh (b : List UInt8) (lim : Nat) (w : World) (v i : Value) (wr : World) : Prop :=
  ∃ k : Nat, i = .int .i64 (k : Int) ∧ k ≤ b.length ∧ v = .int .u64 (PF.numD (b.take k) : Int) ∧ PF.numD (b.take k) ≤ lim ∧ w = wr
theorem take_next {b : List UInt8} {k : Nat} {c : UInt8} {t : List UInt8} (e : b.drop k = c :: t) : b.take (k + 1) = b.take k ++ [c] := by
  have h := (at_cons e).choose_spec.2.2.2
  have hk : k < b.length := by omega
  have h2 := List.drop_eq_getElem_cons hk
  rw [e] at h2
  injection h2 with h3 _
  rw [List.take_add_one, List.getElem?_eq_getElem hk, ← h3]
  rfl
theorem numD_take_le (b : List UInt8) (k : Nat) : PF.numD (b.take k) ≤ PF.numD b := by
  have := PF.numD_le (b.take k) (b.drop k)
  rwa [List.take_append_drop] at this
theorem wrap_u8_dig {c : UInt8} (h : PF.isDig c = true) : IntKind.wrap .u8 ((c.toNat : Int) - 48) = ((c.toNat - 48 : Nat) : Int) := by
  obtain ⟨h1, h2⟩ := isDig_true h
  have : ((c.toNat : Int) - 48) = ((c.toNat - 48 : Nat) : Int) := by omega
  rw [this]
  obtain ⟨n, hn⟩ : ∃ n, c.toNat - 48 = n := ⟨_, rfl⟩
  have hn9 : n ≤ 9 := by omega
  rw [hn]
  simp [IntKind.wrap, IntKind.signed, IntKind.bits]
  omega
theorem wneg (n : Nat) (h : n ≤ 9223372036854775808) : wrap64 (IntKind.u64.wrap (-(n : Int))) = -(n : Int) := by
  rw [IntKind.wrap_u64]
  unfold wrap64
  omega
theorem wpos (n : Nat) (h : n < 9223372036854775808) : wrap64 (n : Int) = (n : Int) := by
  unfold wrap64
  omega
set_option maxHeartbeats 4000000 in
theorem whole80 (l : List UInt8) (hl : l.length ≤ 281474976710656) (h0 : l ≠ []) (hall : (PF.body l).all PF.isDig = true) (w : World) :
    Calls Tryz.prog 80 #[.string (bs l)] w fun e w' => e = .returned (.tuple #[.int .i64 (wholeP l).1, .bool (wholeP l).2]) ∧ w = w' := by
  obtain ⟨R, hR⟩ : ∃ R, wholeP l = R := ⟨_, rfl⟩
  rw [hR]
  obtain ⟨b, hb⟩ : ∃ b, PF.body l = b := ⟨_, rfl⟩
  obtain ⟨lim, hlim⟩ : ∃ lim : Nat, (if PF.isNeg l then 9223372036854775808 else 9223372036854775807) = lim := ⟨_, rfl⟩
  obtain ⟨bn, hbn⟩ : ∃ bn, PF.isNeg l = bn := ⟨_, rfl⟩
  have hneg := isNeg_head l
  have hbl : b.length ≤ 281474976710656 := by
    rw [← hb]
    unfold PF.body
    split
    · rename_i r; simp at hl; omega
    · exact hl
  unfold wholeP at hR
  rw [hb, hbn] at hR
  rw [hbn] at hlim hneg
  rw [hb] at hall
  have HR := Lib.hid hR
  have HALL := Lib.hid hall
  have HLIM := Lib.hid hlim
  have HB := Lib.hid hb
  have HBN := Lib.hid hbn
  have HNEG := Lib.hid hneg
  clear hR hall hlim hb hneg
  rcases list_cases l with e | ⟨c, t, e⟩
  · exact absurd e h0
  · obtain ⟨hlt, hg, hem, h0i, h1i, htl⟩ := bs_head e
    rw [e] at HNEG
    have HTB : Hid (bn = true → t = b) := Lib.hid (fun h => by rw [← HB.out, e]; have := HNEG.out; rw [h] at this; have h45 := of_decide_eq_true this.symm; rw [h45]; rfl)
    have HLB : Hid (bn = false → l = b) := Lib.hid (fun h => by rw [← HB.out]; exact (PF.body_pos (l := l) (fun r er => by rw [h] at hbn; rw [er] at hbn; cases hbn)).1.symm)
    clear e hbn h0
    go_enter Tryz.func80, Tryz.ntmps80
    have c45 : ((c.toNat : Int) == 45) = bn := by
      have h := HNEG.out
      cases bn with
      | true => exact byte_eq c 45 (by decide) (of_decide_eq_true h.symm)
      | false => exact byte_ne c 45 (by decide) (of_decide_eq_false h.symm)
    go_upto_if 12 with (fail)
    go_cut [0, 4] from 13 to 14 (fun s v w' => s = .string (bs b) ∧ v = .int .u64 (lim : Int) ∧ w = w')
    case first =>
      cases bn with
      | true =>
        obtain rfl := HTB.out rfl
        obtain rfl : 9223372036854775808 = lim := HLIM.out
        go_wp2_with fail
        go_meet
        case rel => exact ⟨rfl, rfl, rfl⟩
      | false =>
        obtain rfl : 9223372036854775807 = lim := HLIM.out
        have HLB2 := Lib.hid (HLB.out rfl)
        go_wp2_with fail
        go_meet
        case rel => exact ⟨by rw [HLB2.out], rfl, rfl⟩
    case rest =>
      obtain ⟨rfl, rfl, rfl⟩ := hcut
      have hlim : lim ≤ 9223372036854775808 := by rw [← HLIM.out]; split <;> omega
      have hlim9 : 9 ≤ lim := by rw [← HLIM.out]; split <;> omega
      clear hlt hg hem h0i h1i htl HTB HLB HNEG c45
      go_wp2_with fail
      go_loopw [6, 7] (fun v i wr => InWh b lim w v i wr) (fun _ i => fun _ => up b.length i)
      case atStart => exact ⟨0, rfl, by omega, rfl, by rw [List.take_zero]; show 0 ≤ lim; omega, rfl⟩
      case round =>
        obtain ⟨k, rfl, hk, rfl, hn, rfl⟩ := hrel
        obtain ⟨n, hnn⟩ : ∃ n, PF.numD (b.take k) = n := ⟨_, rfl⟩
        rw [hnn] at hn ⊢
        have HNN := Lib.hid hnn
        clear hnn
        rcases list_cases (b.drop k) with e | ⟨c, t, e⟩
        · have h1 := (at_nil hk e).1
          have HN2 : Hid (PF.numD b = n) := Lib.hid (by
            rw [← HNN.out]
            have := List.take_append_drop k b
            rw [e, List.append_nil] at this
            rw [this])
          clear e
          cases bn with
          | true =>
            have hlz : lim = 9223372036854775808 := HLIM.out.symm
            have hwn := wneg n (by omega)
            have hr := HR.out
            rw [HN2.out, if_pos rfl, if_pos (by omega)] at hr
            have HR2 := Lib.hid hr
            clear hr hlz
            go_wp2_with fail
            go_ret2
            exact ⟨by rw [← HR2.out]; rfl, rfl⟩
          | false =>
            have hlz : lim = 9223372036854775807 := HLIM.out.symm
            have hwn := wpos n (by omega)
            have hr := HR.out
            rw [HN2.out, if_neg (by decide), if_pos (by omega)] at hr
            have HR2 := Lib.hid hr
            clear hr hlz
            go_wp2_with fail
            go_ret2
            exact ⟨by rw [← HR2.out]; rfl, rfl⟩
        · obtain ⟨hlt, hg, hz, hd, hk1⟩ := at_cons e
          have hdg : PF.isDig c = true := by
            have := HALL.out
            rw [List.all_eq_true] at this
            exact this c (List.mem_of_mem_drop (by rw [e]; exact List.mem_cons_self))
          have hw8 := wrap_u8_dig hdg
          obtain ⟨d1, d2⟩ := isDig_true hdg
          have HT := Lib.hid (take_next e)
          obtain ⟨d, hdd⟩ : ∃ d, c.toNat - 48 = d := ⟨_, rfl⟩
          rw [hdd] at hw8
          have hd9 : d ≤ 9 := by omega
          have HN2 : Hid (PF.numD (b.take (k + 1)) = n * 10 + d) := Lib.hid (by rw [HT.out, PF.numD_snoc, HNN.out, hdd])
          clear e hd hdg hdd
          by_cases hov : lim < n * 10 + d
          · have hgt : ((lim : Int) - (d : Int)) / 10 < (n : Int) := by omega
            have HR2 : Hid ((0, false) = R) := Lib.hid (by
              have := numD_take_le b (k + 1)
              rw [HN2.out] at this
              have hl := HLIM.out
              rw [← HR.out]
              cases bn with
              | true => rw [if_pos rfl] at hl ⊢; rw [if_neg (by omega)]
              | false => rw [if_neg (by decide)] at hl ⊢; rw [if_neg (by omega)])
            clear hov
            go_wp2_with fail
            go_ret2
            exact ⟨by rw [← HR2.out]; rfl, rfl⟩
          · have hgt : ¬((lim : Int) - (d : Int)) / 10 < (n : Int) := by omega
            go_wp2_with fail
            go_roundw
            case rel => exact ⟨k + 1, rfl, hk1, by rw [HN2.out]; simp [Int.mul_comm], by rw [HN2.out]; omega, rfl⟩
            case measure => simp [up]; omega
theorem tw_body {l : List UInt8} : (PF.body l).all PF.isDig = decide (p0 l + tw l (p0 l) = l.length) := by
  obtain ⟨h1, h2⟩ := p0_drop l
  rw [← h1, all_take, ← drop_tw]
  have h3 := tw_le l (p0 l) h2
  rw [Bool.eq_iff_iff]
  simp
  omega
theorem tw_len {l : List UInt8} (h : p0 l + tw l (p0 l) = l.length) : (PF.body l).length = tw l (p0 l) := by
  obtain ⟨h1, h2⟩ := p0_drop l
  rw [← h1]
  simp
  omega
theorem intP_whole {l : List UInt8} (h1 : 1 ≤ (PF.body l).length) (h2 : (PF.body l).length ≤ 25) (h3 : (PF.body l).all PF.isDig = true) :
    PF.intP l = if (wholeP l).2 then ((wholeP l).1, 0) else (0, 3) := by
  unfold PF.intP wholeP
  rw [if_pos ⟨h1, h2, h3⟩]
  split <;> split <;> rfl
set_option maxHeartbeats 4000000 in
theorem int37 (l : List UInt8) (hl : l.length ≤ 281474976710656) (w : World) :
    Calls Tryz.prog 37 #[.string (bs l)] w fun e w' => e = .returned (.tuple #[.int .i64 (PF.intP l).1, .int .i64 (PF.intP l).2]) ∧ w = w' := by
  obtain ⟨hp0, hp0l⟩ := p0_drop l
  have hall := tw_body (l := l)
  have hlen := fun h => tw_len (l := l) h
  have hno : (PF.body l).all PF.isDig = false ∨ (PF.body l).length < 1 ∨ 25 < (PF.body l).length → PF.intP l = (0, 2) := by
    intro h
    unfold PF.intP
    rw [if_neg]
    rintro ⟨a, b, c⟩
    rcases h with h | h | h
    · rw [h] at c; cases c
    · omega
    · omega
  have MD := Lib.hid (fun i hi => digits79 l i hl hi)
  have HNEG := Lib.hid (isNeg_head l)
  obtain ⟨q0, hq0⟩ : ∃ q, p0 l = q := ⟨_, rfl⟩
  have HQ0 : Hid ((if PF.isNeg l then 1 else 0) = q0) := Lib.hid hq0
  have htl := tw_le l q0 (by rw [← hq0]; exact hp0l)
  obtain ⟨n, hn⟩ : ∃ n, tw l q0 = n := ⟨_, rfl⟩
  rw [hq0] at hall hlen hp0l
  rw [hn] at hall hlen htl
  have M := Lib.hid (MD.out q0 hp0l w)
  rw [hn] at M
  obtain ⟨q, hq⟩ : ∃ q, q0 + n = q := ⟨_, rfl⟩
  rw [hq] at hall hlen htl M
  have HALL := Lib.hid hall
  have HLEN := Lib.hid hlen
  have HNO := Lib.hid hno
  have HSZ := Lib.hid (bs_size l)
  obtain ⟨bn, hbn⟩ : ∃ b, PF.isNeg l = b := ⟨_, rfl⟩
  rw [hbn] at HQ0 HNEG
  clear hall hlen hno hbn hp0 hq0 hn
  go_enter Tryz.func37, Tryz.ntmps37
  go_upto_region 2 with (fail)
  go_cut [15] from 8 to 15 (fun v w' => v = .bool bn ∧ w = w')
  case first =>
    rcases list_cases l with e | ⟨c, t, e⟩
    · have h0 : (bs l).size = 0 := by rw [bs_size, e]; rfl
      have h0z : ¬((0 : Int) < ((bs l).size : Int)) := by omega
      have hq : bn = false := by rw [HNEG.out, e]; rfl
      subst hq
      clear e h0
      go_wp2_with fail
      go_meet
      case rel => exact ⟨rfl, rfl⟩
    · obtain ⟨hlt, hg, hem, h0i, h1i, htl⟩ := bs_head e
      by_cases h45 : c = 45
      · have c45 : ((c.toNat : Int) == 45) = true := byte_eq c 45 (by decide) h45
        have hq : bn = true := by rw [HNEG.out, e, h45]; rfl
        subst hq
        clear e htl h45
        go_wp2_with fail
        go_meet
        case rel => exact ⟨rfl, rfl⟩
      · have c45 : ((c.toNat : Int) == 45) = false := byte_ne c 45 (by decide) h45
        have hq : bn = false := by rw [HNEG.out, e]; simp [headIs, h45]
        subst hq
        clear e htl h45
        go_wp2_with fail
        go_meet
        case rel => exact ⟨rfl, rfl⟩
  case rest =>
   obtain ⟨rfl, rfl⟩ := hcut
   go_upto_if 15 with (fail)
   go_cut [4] from 16 to 16 (fun v w' => v = .int .i64 (q0 : Int) ∧ w = w')
   case first =>
    cases bn with
    | true =>
      have hqq : q0 = 1 := HQ0.out.symm
      clear M MD HALL HLEN
      subst hqq
      go_wp2_with fail
      go_meet
      case rel => exact ⟨rfl, rfl⟩
    | false =>
      have hqq : q0 = 0 := HQ0.out.symm
      clear M MD HALL HLEN
      subst hqq
      go_wp2_with fail
      go_meet
      case rel => exact ⟨rfl, rfl⟩
   case rest =>
    obtain ⟨rfl, rfl⟩ := hcut
    go_wp2_with fail
    refine M.out.mono ?_
    rintro e w' ⟨rfl, rfl⟩
    by_cases hq1 : q = q0
    · have hqz : ((q : Int) == (q0 : Int)) = true := by simp; omega
      have HI : Hid (PF.intP l = (0, 2)) := Lib.hid (HNO.out (by
        by_cases h : q = l.length
        · have := HLEN.out h; omega
        · left; rw [HALL.out]; simp [h]))
      clear hq1 hq
      go_wp2_with fail
      go_ret2
      exact ⟨by rw [HI.out]; rfl, rfl⟩
    · have hqz : ((q : Int) == (q0 : Int)) = false := by rw [beq_eq_false_iff_ne]; omega
      by_cases hql : q = l.length
      · have hqlz : ((q : Int) != ((bs l).size : Int)) = false := by rw [HSZ.out]; simp; omega
        have hbl := HLEN.out hql
        by_cases h25 : 25 < n
        · have h25z : (25 : Int) < (q : Int) - (q0 : Int) := by omega
          have HI : Hid (PF.intP l = (0, 2)) := Lib.hid (HNO.out (by omega))
          clear hq1 hq hql
          go_wp2_with fail
          go_ret2
          exact ⟨by rw [HI.out]; rfl, rfl⟩
        · have h25z : ¬(25 : Int) < (q : Int) - (q0 : Int) := by omega
          have hall : (PF.body l).all PF.isDig = true := by rw [HALL.out]; simp [hql]
          have HI := Lib.hid (intP_whole (l := l) (by omega) (by omega) hall)
          have MW := Lib.hid (whole80 l hl (by rintro rfl; simp at hql; omega) hall w)
          obtain ⟨x, hx⟩ : ∃ x, wholeP l = x := ⟨_, rfl⟩
          rw [hx] at MW HI
          obtain ⟨v, ok⟩ := x
          simp only at MW HI
          clear hx hq1 hq hql hall
          go_wp2_with fail
          refine MW.out.mono ?_
          rintro e w' ⟨rfl, rfl⟩
          cases ok with
          | true =>
            go_wp2_with fail
            go_ret2
            exact ⟨by rw [HI.out]; rfl, rfl⟩
          | false =>
            go_wp2_with fail
            go_ret2
            exact ⟨by rw [HI.out]; rfl, rfl⟩
      · have hqlz : ((q : Int) != ((bs l).size : Int)) = true := by rw [HSZ.out]; simp; omega
        have HI : Hid (PF.intP l = (0, 2)) := Lib.hid (HNO.out (by left; rw [HALL.out]; simp [hql]))
        clear hq1 hq hql
        go_wp2_with fail
        go_ret2
        exact ⟨by rw [HI.out]; rfl, rfl⟩
end Go.Proofs.YtagiddbfhlokcaaGreatDoor
/- A float less itself: nothing, where it is finite; no number, where it is not. No condition. -/
namespace PF
open Ieee
theorem sum_self (s : Bool) (m : Nat) (i : Int) : (Datum.number s m i).sum (Datum.number s m i).opposite = some (.number false 0 i) := by
  unfold Datum.opposite Datum.sum
  simp only [Int.min_self, Int.sub_self]
  have h : signed s m (0 : Int).toNat + signed (!s) m (0 : Int).toNat = 0 := by
    unfold signed
    cases s <;> simp <;> omega
  rw [h]
  cases s <;> simp
theorem sub_fin {x : Nat} (h : Fin x) : double.sub x x = some 0 := by
  have hs : double.signWeight = 9223372036854775808 := rfl
  have hl : double.leastPlace = -1074 := by decide
  have hb : double.binade = 4503599627370496 := rfl
  have hi : double.infRung = 9218868437227405312 := rfl
  unfold Fin at h
  have hn : ∃ s m i, double.read x = .number s m i := by
    unfold Format.read
    simp only [hs, hl, hb, hi]
    split
    · exact ⟨_, _, _, rfl⟩
    · exact ⟨_, _, _, rfl⟩
  obtain ⟨s, m, i, hr⟩ := hn
  unfold Format.sub
  rw [hr, sum_self]
  rfl
theorem sub_inf {x : Nat} (h : Inf x) : double.sub x x = none := by
  have hs : double.signWeight = 9223372036854775808 := rfl
  have hb : double.binade = 4503599627370496 := rfl
  have hi : double.infRung = 9218868437227405312 := rfl
  unfold Inf at h
  have hr : ∃ s, double.read x = .infinity s := by
    unfold Format.read
    simp only [hs, hb, hi]
    rw [if_neg (by omega), if_neg (by omega), if_pos h]
    exact ⟨_, rfl⟩
  obtain ⟨s, hr⟩ := hr
  unfold Format.sub
  rw [hr]
  cases s <;> rfl
end PF
/- The other package's Parse. Condition: the text's length; strconv's tables. -/
namespace Go.Proofs.YtagiddbfhlokcaaGreatDoor
open Go.RowKit
set_option maxRecDepth 100000
theorem run_sub_fin {x : Nat} (h : PF.Fin x) (w : World) : (binOp BinOp.sub 99 (.float .f64 x) (.float .f64 x)).run Tryz.prog w = .ok (.float .f64 0) w := by
  have hs := PF.sub_fin h
  simp [binOp, go_sem, Op.floatArith, FloatKind.format, hs]
theorem run_sub_inf {x : Nat} (h : PF.Inf x) (w : World) : ∃ y, (binOp BinOp.sub 99 (.float .f64 x) (.float .f64 x)).run Tryz.prog w = .ok (.float .f64 y) w.drew ∧ ∃ s t, Ieee.double.read y = .nan s t := by
  have hs := PF.sub_inf h
  refine ⟨Question.cut (.nanBits .f64 x x) (w.tape w.drawn (.nanBits .f64 x x)), ?_, ?_⟩
  · simp [binOp, go_sem, Op.floatArith, FloatKind.format, hs, Question.forced]
  · generalize w.tape w.drawn (.nanBits .f64 x x) = t
    have h1 : Ieee.double.signWeight = 9223372036854775808 := rfl
    have h2 : Ieee.double.binade = 4503599627370496 := rfl
    have h3 : Ieee.double.infRung = 9218868437227405312 := rfl
    unfold Question.cut Ieee.Format.read
    simp only [h1, h2, h3]
    have h4 : (t / 2) % (2 ^ 52 - 1) < 2 ^ 52 - 1 := Nat.mod_lt _ (by decide)
    have h5 : t % 2 < 2 := Nat.mod_lt _ (by decide)
    generalize (t / 2) % (2 ^ 52 - 1) = b at *
    generalize t % 2 = a at *
    have h6 : (2 : Nat) ^ 52 - 1 = 4503599627370495 := by decide
    have h7 : (2 : Nat) ^ 63 = 9223372036854775808 := by decide
    rw [h6] at h4
    rw [h7]
    rw [if_neg (by omega), if_neg (by omega), if_neg (by omega)]
    exact ⟨_, _, rfl⟩
theorem run_neq_nan {y : Nat} {s : Bool} {t : Nat} (h : Ieee.double.read y = .nan s t) (w : World) : (binOp BinOp.neq 99 (.float .f64 y) (.float .f64 0)).run Tryz.prog w = .ok (.bool true) w := by
  simp [binOp, go_sem, Op.floatCmp, FloatKind.format, Ieee.Format.order, h, Ieee.Datum.order]
theorem run_neq_zero (w : World) : (binOp BinOp.neq 99 (.float .f64 0) (.float .f64 0)).run Tryz.prog w = .ok (.bool false) w := by
  kernel_rfl
theorem results53d {F : Func} (hF : F.results = #[.cell 2 53, .tmp 3]) {tmps : Array Value} {wr : World} {B : Nat} {x y z a b c : Value} (hb : tmps.getD 2 undef = .pointer (some ⟨B, 0, none⟩)) (hk : wr.heap[B]? = some (.cells #[a, b, c] 53 (0, 0))) :
    (results F tmps).run Tryz.prog (((wr.setCell ⟨B, 0, none⟩ x).setCell ⟨B, 1, none⟩ y).setCell ⟨B, 2, none⟩ z).drew = .ok (.tuple #[.agg #[x, y, z], tmps.getD 3 undef]) (((wr.setCell ⟨B, 0, none⟩ x).setCell ⟨B, 1, none⟩ y).setCell ⟨B, 2, none⟩ z).drew := by
  have h1 := heap_setCell_same _ B 0 _ _ x hk
  have h2 := heap_setCell_same _ B 1 _ _ y h1
  have h3 := heap_setCell_same _ B 2 _ _ z h2
  exact results2 hF hb h3
theorem suffix_snoc (m : List UInt8) (z : UInt8) : Lib.hasSuffix (m ++ [z]) [105] = decide (z = 105) ∧ (z = 105 → Lib.trimSuffix (m ++ [z]) [105] = m) := by
  have h1 : Lib.hasSuffix (m ++ [z]) [105] = decide (z = 105) := by
    unfold Lib.hasSuffix List.isSuffixOf
    simp [List.isPrefixOf]
    by_cases h : z = 105
    · simp [h]
    · simp [h, Ne.symm h]
  refine ⟨h1, fun h => ?_⟩
  unfold Lib.trimSuffix
  rw [h1, if_pos (decide_eq_true h)]
  simp
theorem strs_t (w0 : World) (g : Nat) (hg : w0.heap.size = g) : ∀ k (h : k < trues.length), (w0.alloc (.cells #[.string ⟨#[116]⟩, .string ⟨#[84]⟩, .string ⟨#[116, 114, 117, 101]⟩, .string ⟨#[84, 114, 117, 101]⟩, .string ⟨#[84, 82, 85, 69]⟩] 9 (0, 0))).cell? ⟨g, k, none⟩ = some (.string (bs trues[k])) := by
  subst hg
  intro k h
  rw [Lib.cell_of_heap (newest _ _)]
  match k, h with
  | 0, _ => rfl
  | 1, _ => rfl
  | 2, _ => rfl
  | 3, _ => rfl
  | 4, _ => rfl
  | k + 5, h => exact absurd h (by simp [trues])
theorem strs_f (w0 : World) (g : Nat) (hg : w0.heap.size = g) : ∀ k (h : k < falses.length), (w0.alloc (.cells #[.string ⟨#[102]⟩, .string ⟨#[70]⟩, .string ⟨#[102, 97, 108, 115, 101]⟩, .string ⟨#[70, 97, 108, 115, 101]⟩, .string ⟨#[70, 65, 76, 83, 69]⟩] 9 (0, 0))).cell? ⟨g, k, none⟩ = some (.string (bs falses[k])) := by
  subst hg
  intro k h
  rw [Lib.cell_of_heap (newest _ _)]
  match k, h with
  | 0, _ => rfl
  | 1, _ => rfl
  | 2, _ => rfl
  | 3, _ => rfl
  | 4, _ => rfl
  | k + 5, h => exact absurd h (by simp [falses])
set_option maxHeartbeats 8000000 in
theorem parse21 {T : Nat → Nat × Nat} {F : Nat → Nat} {B2 o2 B o : Nat} {S : Nat → ByteArray} (l : List UInt8) (hlen : l.length ≤ 140737488355328) (w : World) (hw : PEnv T F B2 o2 B o S w) {ev : Value} (hv : w.cell? ⟨3, 0, none⟩ = some ev) (hev : ev = .nilIface ∨ ∃ te pe, ev = .iface te pe) :
    Calls Tryz.prog 21 #[.string (bs l)] w fun e w' => e = .returned (.tuple #[(valP (tabF T) F l).1, .int .i64 (valP (tabF T) F l).2]) ∧ Below w.heap.size w w' := by
  obtain ⟨V, hV⟩ : ∃ V, valP (tabF T) F l = V := ⟨_, rfl⟩
  rw [hV]
  unfold valP at hV
  have HV := Lib.hid hV
  have HW := Lib.hid (fun w2 (h : Below w.heap.size w w2) => hw.below h)
  have HE := Lib.hid (fun w2 (h : Below w.heap.size w w2) => (h.cell (cell_lt hv)).trans hv)
  have HEV := Lib.hid hev
  obtain ⟨w0, hw0⟩ : ∃ w0, w.alloc (.cells #[.int .i64 0, .int .u64 0, .string ⟨#[]⟩] 53 (0, 0)) = w0 := ⟨_, rfl⟩
  have HW0 := Lib.hid hw0
  have hs0 : w0.heap.size = w.heap.size + 1 := by rw [← hw0]; simp
  have HS0 := Lib.hid hs0
  clear hV hw hv hev hs0
  go_enter Tryz.func21, Tryz.ntmps21
  go_wp2_with fail
  refine (in51 trues l w0.heap.size _ (strs_t w0 _ rfl) (by decide)).mono ?_
  rintro e w1 ⟨rfl, rfl⟩
  obtain ⟨w1, hw1⟩ : ∃ w1, w0.alloc (.cells #[.string ⟨#[116]⟩, .string ⟨#[84]⟩, .string ⟨#[116, 114, 117, 101]⟩, .string ⟨#[84, 114, 117, 101]⟩, .string ⟨#[84, 82, 85, 69]⟩] 9 (0, 0)) = w1 := ⟨_, rfl⟩
  have HB1 : Hid (Below w0.heap.size w0 w1) := Lib.hid (by rw [← hw1]; exact (Below.refl _ _).alloc (Nat.le_refl _) _)
  rw [hw1]
  clear hw1
  by_cases ht : l ∈ trues
  · rw [if_pos ht] at HV
    have hd : decide (l ∈ trues) = true := decide_eq_true ht
    rw [hd]
    clear ht hd
    obtain ⟨f0, f1, f2, g0, g1, g2, hk, hbw⟩ := resF HW0.out HB1.out
    have HBW := Lib.hid hbw
    have HK := Lib.hid hk
    clear hk hbw
    go_wp2_with fail
    refine bodyPost_ret (results53 (F := Tryz.f21) rfl rfl HK.out) rfl ?_
    exact ⟨by rw [← HV.out]; rfl, ((HBW.out.setCell (Nat.le_refl _) _).setCell (Nat.le_refl _) _).setCell (Nat.le_refl _) _⟩
  · rw [if_neg ht] at HV
    have hd : decide (l ∈ trues) = false := decide_eq_false ht
    rw [hd]
    clear ht hd
    go_wp2_with fail
    refine (in51 falses l w1.heap.size _ (strs_f w1 _ rfl) (by decide)).mono ?_
    rintro e w2 ⟨rfl, rfl⟩
    obtain ⟨w2, hw2⟩ : ∃ w2, w1.alloc (.cells #[.string ⟨#[102]⟩, .string ⟨#[70]⟩, .string ⟨#[102, 97, 108, 115, 101]⟩, .string ⟨#[70, 97, 108, 115, 101]⟩, .string ⟨#[70, 65, 76, 83, 69]⟩] 9 (0, 0)) = w2 := ⟨_, rfl⟩
    have HB2 : Hid (Below w0.heap.size w0 w2) := Lib.hid (by rw [← hw2]; exact HB1.out.alloc HB1.out.size _)
    rw [hw2]
    clear hw2 HB1
    by_cases hf : l ∈ falses
    · rw [if_pos hf] at HV
      have hd : decide (l ∈ falses) = true := decide_eq_true hf
      rw [hd]
      clear hf hd
      obtain ⟨f0, f1, f2, g0, g1, g2, hk, hbw⟩ := resF HW0.out HB2.out
      have HBW := Lib.hid hbw
      have HK := Lib.hid hk
      clear hk hbw
      go_wp2_with fail
      refine bodyPost_ret (results53 (F := Tryz.f21) rfl rfl HK.out) rfl ?_
      exact ⟨by rw [← HV.out]; rfl, ((HBW.out.setCell (Nat.le_refl _) _).setCell (Nat.le_refl _) _).setCell (Nat.le_refl _) _⟩
    · rw [if_neg hf] at HV
      have hd : decide (l ∈ falses) = false := decide_eq_false hf
      rw [hd]
      clear hf hd
      have hbw0 : Below w.heap.size w w2 := by
        have h0 : Below w.heap.size w w0 := by rw [← HW0.out]; exact (Below.refl _ _).alloc (Nat.le_refl _) _
        exact h0.trans (HB2.out.mono h0.size)
      have HBA := Lib.hid hbw0
      clear hbw0
      rcases list_cases l with e | ⟨a, r, e⟩
      · have h0 : (bs l).size = 0 := by rw [bs_size, e]; rfl
        have h0z : ¬((0 : Int) < ((bs l).size : Int)) := by omega
        have h1z : ¬((1 : Int) < ((bs l).size : Int)) := by omega
        have HVE : Hid ((val 0 0 ⟨#[]⟩, 2) = V) := Lib.hid (by rw [← HV.out, e]; rfl)
        have MF := Lib.hid (isFloat53 l (by omega) w2)
        have hdec : PF.decB l = false := by rw [e]; rfl
        rw [hdec] at MF
        clear e h0 hdec
        go_wp2_with fail
        refine MF.out.mono ?_
        rintro e w3 ⟨rfl, rfl⟩
        obtain ⟨f0, f1, f2, g0, g1, g2, hk, hbw⟩ := resF HW0.out HB2.out
        have HBW := Lib.hid hbw
        have HK := Lib.hid hk
        clear hk hbw
        go_wp2_with fail
        refine bodyPost_ret (results53 (F := Tryz.f21) rfl rfl HK.out) rfl ?_
        exact ⟨by rw [← HVE.out]; rfl, ((HBW.out.setCell (Nat.le_refl _) _).setCell (Nat.le_refl _) _).setCell (Nat.le_refl _) _⟩
      · obtain ⟨hlt, hg, hem, h0i, h1i, htl⟩ := bs_head e
        by_cases h34 : a = 34
        · have c34 : ((a.toNat : Int) == 34) = true := byte_eq a 34 (by decide) h34
          have hq : headIs 34 l = true := by rw [e, h34]; rfl
          rw [if_pos hq] at HV
          have HVU : Hid (unqV (PF.unq r) = V) := Lib.hid (by rw [← HV.out, e]; rfl)
          have MU := Lib.hid (unquoted52 r (by rw [e] at hlen; simp at hlen; omega) w2)
          rw [h34] at e
          rw [← e] at MU
          clear e h34 hq htl
          go_wp2_with fail
          refine MU.out.mono ?_
          rintro e w3 ⟨rfl, hb3⟩
          have HB3 := Lib.hid (HB2.out.trans (hb3.mono HB2.out.size))
          clear hb3
          obtain ⟨u, hu⟩ : ∃ u, PF.unq r = u := ⟨_, rfl⟩
          rw [hu] at HVU ⊢
          clear hu
          cases u with
          | none =>
            unfold uqR
            unfold unqV at HVU
            simp only at HVU ⊢
            obtain ⟨f0, f1, f2, g0, g1, g2, hk, hbw⟩ := resF HW0.out HB3.out
            have HBW := Lib.hid hbw
            have HK := Lib.hid hk
            clear hk hbw
            go_wp2_with fail
            refine bodyPost_ret (results53 (F := Tryz.f21) rfl rfl HK.out) rfl ?_
            exact ⟨by rw [← HVU.out]; rfl, ((HBW.out.setCell (Nat.le_refl _) _).setCell (Nat.le_refl _) _).setCell (Nat.le_refl _) _⟩
          | some t =>
            unfold uqR
            unfold unqV at HVU
            simp only at HVU ⊢
            by_cases h6 : 65536 < t.length
            · rw [if_pos h6] at HVU
              have h6z : (65536 : Int) < ((bs t).size : Int) := by rw [bs_size]; omega
              clear h6
              obtain ⟨f0, f1, f2, g0, g1, g2, hk, hbw⟩ := resF HW0.out HB3.out
              have HBW := Lib.hid hbw
              have HK := Lib.hid hk
              clear hk hbw
              go_wp2_with fail
              refine bodyPost_ret (results53 (F := Tryz.f21) rfl rfl HK.out) rfl ?_
              exact ⟨by rw [← HVU.out]; rfl, ((HBW.out.setCell (Nat.le_refl _) _).setCell (Nat.le_refl _) _).setCell (Nat.le_refl _) _⟩
            · rw [if_neg h6] at HVU
              have h6z : ¬(65536 : Int) < ((bs t).size : Int) := by rw [bs_size]; omega
              clear h6
              obtain ⟨f0, f1, f2, g0, g1, g2, hk, hbw⟩ := resF HW0.out HB3.out
              have HBW := Lib.hid hbw
              have HK := Lib.hid hk
              clear hk hbw
              go_wp2_with fail
              refine bodyPost_ret (results53 (F := Tryz.f21) rfl rfl HK.out) rfl ?_
              exact ⟨by rw [← HVU.out]; rfl, ((HBW.out.setCell (Nat.le_refl _) _).setCell (Nat.le_refl _) _).setCell (Nat.le_refl _) _⟩
        · have c34 : ((a.toNat : Int) == 34) = false := byte_ne a 34 (by decide) h34
          have hq : headIs 34 l = false := by rw [e]; simp [headIs, h34]
          rw [if_neg (by rw [hq]; decide)] at HV
          clear h34 hq htl
          obtain ⟨m, z, hmz⟩ : ∃ m z, l = m ++ [z] := by
            rcases List.eq_nil_or_concat l with h | ⟨m, z, h⟩
            · rw [h] at e; cases e
            · exact ⟨m, z, by rw [h, List.concat_eq_append]⟩
          obtain ⟨bi, hbi⟩ : ∃ b, (decide (1 < l.length) && decide (z = 105)) = b := ⟨_, rfl⟩
          have HBI := Lib.hid hbi
          have HMZ := Lib.hid hmz
          have hsz : (bs l).size = m.length + 1 := by rw [bs_size, hmz]; simp
          obtain ⟨k, hk⟩ : ∃ k, m.length = k := ⟨_, rfl⟩
          rw [hk] at hsz
          have hkz : ((bs l).size : Int) - 1 = (k : Int) := by omega
          have hklt : k < (bs l).size := by omega
          have hgz : (bs l)[k] = z := by rw [bs_get]; simp [hmz, ← hk]
          have hkl : (k : Int) < ((bs l).size : Int) := by omega
          have hll : l.length = k + 1 := by rw [← bs_size]; exact hsz
          have HSZ := Lib.hid hsz
          have HK := Lib.hid hk
          clear e hbi hmz hsz hk
          go_upto_region 12 with (fail)
          go_cut [50] from 40 to 50 (fun v w' => v = .bool bi ∧ w2 = w')
          case first =>
            have hbi := HBI.out
            by_cases hk1 : 1 < l.length
            · have hk1z : (1 : Int) < ((bs l).size : Int) := by rw [HSZ.out]; omega
              by_cases hz : z = 105
              · have cz : ((z.toNat : Int) == 105) = true := byte_eq z 105 (by decide) hz
                obtain rfl : true = bi := by rw [← hbi]; simp [hk1, hz]
                clear hbi hz
                go_wp2_with fail
                go_meet
                case rel => exact ⟨rfl, rfl⟩
              · have cz : ((z.toNat : Int) == 105) = false := byte_ne z 105 (by decide) hz
                obtain rfl : false = bi := by rw [← hbi]; simp [hz]
                clear hbi hz
                go_wp2_with fail
                go_meet
                case rel => exact ⟨rfl, rfl⟩
            · have hk1z : ¬(1 : Int) < ((bs l).size : Int) := by rw [HSZ.out]; omega
              obtain rfl : false = bi := by rw [← hbi]; simp [hk1]
              clear hbi
              go_wp2_with fail
              go_meet
              case rel => exact ⟨rfl, rfl⟩
          case rest =>
            obtain ⟨rfl, rfl⟩ := hcut
            have hsuf := suffix_snoc m z
            rw [← HMZ.out] at hsuf
            cases bi with
            | true =>
              have hbi := HBI.out
              simp only [Bool.and_eq_true, decide_eq_true_eq] at hbi
              rw [if_pos (by rw [hsuf.1]; exact decide_eq_true hbi.2), hsuf.2 hbi.2] at HV
              have MI := Lib.hid (int37 m (by rw [HK.out]; omega) w2)
              have hcutl : (bs l).extract 0 k = bs m := by
                apply ByteArray.ext
                apply Array.toList_inj.1
                rw [Lib.extract_data, bs_list, bs_list, HMZ.out, ← HK.out]
                simp
              obtain ⟨xx, hxx⟩ : ∃ x, PF.intP m = x := ⟨_, rfl⟩
              rw [hxx] at MI HV
              obtain ⟨i, n⟩ := xx
              clear hxx hbi hsuf
              simp only at MI HV
              go_wp2_with fail
              refine MI.out.mono ?_
              rintro e w3 ⟨rfl, rfl⟩
              by_cases hn : n = 0
              · rw [if_pos hn] at HV
                have hnb : (n == 0) = true := by rw [hn]; rfl
                clear hn
                obtain ⟨f0, f1, f2, g0, g1, g2, hk, hbw⟩ := resF HW0.out HB2.out
                have HBW := Lib.hid hbw
                have HK := Lib.hid hk
                clear hk hbw
                go_wp2_with fail
                refine bodyPost_ret (results53 (F := Tryz.f21) rfl rfl HK.out) rfl ?_
                exact ⟨by rw [← HV.out]; rfl, ((HBW.out.setCell (Nat.le_refl _) _).setCell (Nat.le_refl _) _).setCell (Nat.le_refl _) _⟩
              · rw [if_neg hn] at HV
                have hnb : (n == 0) = false := by rw [beq_eq_false_iff_ne]; exact hn
                clear hn
                obtain ⟨f0, f1, f2, g0, g1, g2, hk, hbw⟩ := resF HW0.out HB2.out
                have HBW := Lib.hid hbw
                have HK := Lib.hid hk
                clear hk hbw
                go_wp2_with fail
                refine bodyPost_ret (results53 (F := Tryz.f21) rfl rfl HK.out) rfl ?_
                exact ⟨by rw [← HV.out]; rfl, ((HBW.out.setCell (Nat.le_refl _) _).setCell (Nat.le_refl _) _).setCell (Nat.le_refl _) _⟩
            | false =>
              have HV2 : Hid ((if PF.decB l then (if (PF.atof (tabF T) F l).2 then (val 0 0 ⟨#[]⟩, 3) else (val 1 (PF.atof (tabF T) F l).1 ⟨#[]⟩, 0)) else (val 0 0 ⟨#[]⟩, 2)) = V) := Lib.hid (by
                by_cases hz : z = 105
                · have hbi := HBI.out
                  have h1 : ¬1 < l.length := by intro h; simp [h, hz] at hbi
                  have hm : m = [] := by apply List.eq_nil_of_length_eq_zero; rw [HK.out]; omega
                  have hv := HV.out
                  rw [if_pos (by rw [hsuf.1]; exact decide_eq_true hz), hsuf.2 hz, hm] at hv
                  rw [← hv, HMZ.out, hm, hz]
                  rfl
                · have hv := HV.out
                  rw [if_neg (by rw [hsuf.1]; simp [hz])] at hv
                  exact hv)
              clear hsuf HV
              have M58 := Lib.hid (isFloat53 l (by omega) w2)
              obtain ⟨bd, hbd⟩ : ∃ b, PF.decB l = b := ⟨_, rfl⟩
              have HBD := Lib.hid hbd
              rw [hbd] at HV2 M58
              clear hbd
              go_wp2_with fail
              refine M58.out.mono ?_
              rintro e w3 ⟨rfl, rfl⟩
              cases bd with
              | false =>
                rw [if_neg (by decide)] at HV2
                obtain ⟨f0, f1, f2, g0, g1, g2, hk, hbw⟩ := resF HW0.out HB2.out
                have HBW := Lib.hid hbw
                have HK := Lib.hid hk
                clear hk hbw
                go_wp2_with fail
                refine bodyPost_ret (results53 (F := Tryz.f21) rfl rfl HK.out) rfl ?_
                exact ⟨by rw [← HV2.out]; rfl, ((HBW.out.setCell (Nat.le_refl _) _).setCell (Nat.le_refl _) _).setCell (Nat.le_refl _) _⟩
              | true =>
                rw [if_pos rfl] at HV2
                have MP := Lib.hid (parse54 (bs l) (by rw [bs_list]; exact HBD.out) (HW.out _ HBA.out) (HE.out _ HBA.out) HEV.out)
                rw [bs_list] at MP
                have hfin := PF.atof_fin (T := tabF T) (F := F) (fun p => (HW.out _ HBA.out).tl _ |>.1) (HW.out _ HBA.out).flo.ok l
                obtain ⟨xx, hxx⟩ : ∃ x, PF.atof (tabF T) F l = x := ⟨_, rfl⟩
                rw [hxx] at MP HV2 hfin
                obtain ⟨x, ov⟩ := xx
                clear hxx
                simp only at MP HV2 hfin
                have HFIN := Lib.hid hfin
                clear hfin
                go_wp2_with fail
                refine MP.out.mono ?_
                rintro e w3 ⟨h1, h2, hb3⟩
                have HB3 := Lib.hid (HB2.out.trans (hb3.mono HB2.out.size))
                simp only at h1 h2
                cases ov with
                | true =>
                  obtain ⟨NN, rfl⟩ := h2 rfl
                  clear h1 h2 hb3
                  rw [if_pos rfl] at HV2
                  obtain ⟨y, hsub, s, t, hnan⟩ := run_sub_inf (HFIN.out.2.1 rfl) w3
                  have hneq : (FloatKind.f64.format.order y 0 != some Ordering.eq) = true := by
                    show (Ieee.double.order y 0 != some Ordering.eq) = true
                    unfold Ieee.Format.order
                    rw [hnan]
                    rfl
                  clear hnan
                  obtain ⟨f0, f1, f2, g0, g1, g2, hk, hbw⟩ := resF HW0.out HB3.out
                  have HBW := Lib.hid hbw
                  have HK := Lib.hid hk
                  clear hk hbw
                  go_wp2_with fail
                  refine bodyPost_ret (results53d (F := Tryz.f21) rfl rfl HK.out) rfl ?_
                  exact ⟨by rw [← HV2.out]; rfl, (((HBW.out.setCell (Nat.le_refl _) _).setCell (Nat.le_refl _) _).setCell (Nat.le_refl _) _).drew⟩
                | false =>
                  obtain rfl := h1 rfl
                  clear h1 h2 hb3
                  rw [if_neg (by decide)] at HV2
                  have hsub := run_sub_fin (HFIN.out.1 rfl)
                  have hneq : (FloatKind.f64.format.order 0 0 != some Ordering.eq) = false := by kernel_rfl
                  have h55 := run55 x
                  obtain ⟨f0, f1, f2, g0, g1, g2, hk, hbw⟩ := resF HW0.out HB3.out
                  have HBW := Lib.hid hbw
                  have HK := Lib.hid hk
                  clear hk hbw
                  go_wp2_with fail
                  refine bodyPost_ret (results53 (F := Tryz.f21) rfl rfl HK.out) rfl ?_
                  exact ⟨by rw [← HV2.out]; rfl, ((HBW.out.setCell (Nat.le_refl _) _).setCell (Nat.le_refl _) _).setCell (Nat.le_refl _) _⟩
end Go.Proofs.YtagiddbfhlokcaaGreatDoor
