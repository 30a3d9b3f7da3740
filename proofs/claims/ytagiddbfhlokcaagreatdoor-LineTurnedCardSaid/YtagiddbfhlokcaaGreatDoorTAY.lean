/- Several texts of this proof, laid together. Conditions: as each says. -/
import Derived.Test.YtagiddbfhlokcaaGreatDoorTAX
import Derived.Test.YtagiddbfhlokcaaGreatDoorTAQ
import Derived.Test.YtagiddbfhlokcaaGreatDoorTAJ
import Derived.Lib.AtoiErrMem
import Derived.Test.YtagiddbfhlokcaaGreatDoorTAS
/- A value's text cut off a line, by the program and by the reference. Condition: the text's length. -/
namespace Go.Proofs.YtagiddbfhlokcaaGreatDoor.Ser
open Go.RowKit Go.Sort
set_option maxRecDepth 100000
def CvPost (l : List UInt8) (w : World) (e : Ending) (w' : World) : Prop :=
  Below w.heap.size w w' ∧ match vEnd l with
    | some m => e = .returned (.tuple #[.string (bs (l.take m)), .string (bs (l.drop m)), .bool true])
    | none => ∃ a b, e = .returned (.tuple #[.string a, .string b, .bool false])
def InCv (l : List UInt8) (w : World) (v : Value) (wr : World) : Prop :=
  ∃ k : Nat, v = .int .i64 (k : Int) ∧ 1 ≤ k ∧ ((k ≤ l.length ∧ qa 1 l.tail = qa k (l.drop k)) ∨ (k = l.length + 1 ∧ qa 1 l.tail = none)) ∧ Below w.heap.size w wr
theorem take_bs (l : List UInt8) (k : Nat) : (bs l).extract 0 k = bs (l.take k) := by
  apply ByteArray.ext
  apply Array.toList_inj.1
  rw [Lib.extract_data, bs_list, bs_list]
  simp
theorem drop_bs (l : List UInt8) (k : Nat) : (bs l).extract k (bs l).size = bs (l.drop k) := by
  apply ByteArray.ext
  apply Array.toList_inj.1
  rw [Lib.extract_data, bs_list, bs_list, bs_size]
  rw [List.take_of_length_le (by simp)]
theorem byte_bne (c : UInt8) (n : Nat) (hn : n < 256) (h : c ≠ UInt8.ofNat n) : ((c.toNat : Int) != (n : Int)) = true := by
  have := byte_ne c n hn h
  rw [bne, this]; rfl
set_option maxHeartbeats 4000000 in
theorem cutv42 (l : List UInt8) (hl : l.length < 4294967281) (w : World) : Calls Tryz.prog 42 #[.string (bs l)] w (CvPost l w) := by
  have M82 := Lib.hid (fun w => any82 (bs l) (by rw [bs_size]; exact hl) w)
  rw [bs_list] at M82
  have M41 := Lib.hid (fun w => hasP l 34 w)
  obtain ⟨z, hz⟩ : ∃ z, Lib.indexAny l [44, 32] = z := ⟨_, rfl⟩
  have HT := Lib.hid (any_tw l)
  rw [hz] at M82 HT
  obtain ⟨P, hP⟩ : ∃ P, CvPost l w = P := ⟨_, rfl⟩
  have HP := Lib.hid hP
  rw [hP]
  have HSZ := Lib.hid (bs_size l)
  obtain ⟨bq, hbq⟩ : ∃ b, headIs 34 l = b := ⟨_, rfl⟩
  rw [hbq] at M41
  have HBQ := Lib.hid hbq
  clear hz hP hbq
  go_enter Tryz.func42, Tryz.ntmps42
  go_wp2_with fail
  refine (M82.out _).mono ?_
  rintro e w1 ⟨rfl, hb1⟩
  have HB1 := Lib.hid hb1
  clear hb1
  go_wp2_with fail
  refine (M41.out _).mono ?_
  rintro e w' ⟨rfl, rfl⟩
  cases bq with
  | true =>
    go_wp2_with fail
    go_loopw [5] (fun v wr => InCv l w v wr) (fun v _ => l.length + 1 - (intOf v).toNat)
    case atStart =>
      refine ⟨1, rfl, Nat.le_refl _, .inl ⟨?_, ?_⟩, HB1.out⟩
      · have := HBQ.out
        cases l with
        | nil => cases this
        | cons c r => simp
      · rw [List.drop_one]
    case round =>
      obtain ⟨k, rfl, hk1, hq, hb⟩ := hrel
      have HB := Lib.hid hb
      clear hb
      have HNONE : ∀ wz, Below w.heap.size w wz → vEnd l = none → ∀ a b : ByteArray, ∀ q : Bool, q = false → P (.returned (.tuple #[.string a, .string b, .bool q])) wz := fun wz hb hv a b q hq => by
        rw [← HP.out, hq]
        refine ⟨hb, ?_⟩
        rw [hv]
        exact ⟨a, b, rfl⟩
      have HN := Lib.hid HNONE
      have HV0 : Hid (vEnd l = qa 1 l.tail) := Lib.hid (by unfold vEnd; rw [HBQ.out, if_pos rfl])
      clear HNONE
      rcases hq with ⟨hk, hq⟩ | ⟨hk, hq⟩
      · rcases list_cases (l.drop k) with e | ⟨c, t, e⟩
        · have hke : l.length ≤ k := List.drop_eq_nil_iff.1 e
          have HV : Hid (vEnd l = none) := Lib.hid (by rw [HV0.out, hq, e]; rfl)
          have h1 : ¬ (k : Int) < ((bs l).size : Int) := by rw [HSZ.out]; omega
          have H2 : Hid (decide ((k : Int) + 1 ≤ ((bs l).size : Int)) = false) := Lib.hid (decide_eq_false (by rw [HSZ.out]; omega))
          have hkb : (k : Int) ≤ 4294967290 := by omega
          clear hq e hke hk
          go_wp2_with fail
          go_region
          go_wp2_with fail
          go_ret3
          exact HN.out _ (by first | exact HB.out.drew | exact HB.out) HV.out _ _ _ H2.out
        · obtain ⟨hlt, hg, hz, hd, hkl⟩ := at_cons e
          by_cases h34 : c = 34
          · have c34 : ((c.toNat : Int) != 34) = false := by rw [h34]; rfl
            have HV : Hid (vEnd l = some (k + 1)) := Lib.hid (by rw [HV0.out, hq, e, h34, qa_q])
            have HM : Hid (min ((k : Int) + 1) ((bs l).size : Int) = ((k + 1 : Nat) : Int)) := Lib.hid (by rw [HSZ.out]; omega)
            have H2 : Hid (decide ((k : Int) + 1 ≤ ((bs l).size : Int)) = true) := Lib.hid (decide_eq_true (by rw [HSZ.out]; omega))
            clear hq e hk h34
            go_wp2_with fail
            go_region
            go_wp2_with fail
            go_ret3
            rw [← HP.out]
            refine ⟨HB.out.drew, ?_⟩
            rw [HV.out]
            simp only [HM.out, H2.out, Int.toNat_natCast]
            rw [take_bs, drop_bs]
            rfl
          · have c34 : ((c.toNat : Int) != 34) = true := byte_bne c 34 (by decide) h34
            by_cases h92 : c = 92
            · have c92 : ((c.toNat : Int) == 92) = true := byte_eq c 92 (by decide) h92
              cases t with
              | nil =>
                have HR : Hid (InCv l w (.int .i64 ((k : Int) + 1 + 1)) wr) := Lib.hid ⟨k + 2, congrArg (Value.int .i64) (by omega), by omega, .inr ⟨by have := congrArg List.length e; simp at this; omega, by rw [hq, e, h92, qa_esc0]⟩, HB.out⟩
                clear hq e h34 h92 hd
                go_wp2_with fail
                go_roundw
                case rel => exact HR.out
                case measure => simp [intOf]; omega
              | cons d r =>
                have hd2 : l.drop (k + 2) = r := by rw [← List.drop_drop, e]; rfl
                have HR : Hid (InCv l w (.int .i64 ((k : Int) + 1 + 1)) wr) := Lib.hid ⟨k + 2, congrArg (Value.int .i64) (by omega), by omega, .inl ⟨by have := congrArg List.length e; simp at this; omega, by rw [hq, e, h92, qa_esc, hd2]⟩, HB.out⟩
                clear hq e h34 h92 hd hd2
                go_wp2_with fail
                go_roundw
                case rel => exact HR.out
                case measure => simp [intOf]; omega
            · have c92 : ((c.toNat : Int) == 92) = false := byte_ne c 92 (by decide) h92
              have HR : Hid (InCv l w (.int .i64 ((k : Int) + 1)) wr) := Lib.hid ⟨k + 1, congrArg (Value.int .i64) (by omega), by omega, .inl ⟨hkl, by rw [hq, e, qa_next _ _ _ h34 h92, hd]⟩, HB.out⟩
              clear hq e h34 h92 hd
              go_wp2_with fail
              go_roundw
              case rel => exact HR.out
              case measure => simp [intOf]; omega
      · have HV : Hid (vEnd l = none) := Lib.hid (by rw [HV0.out, hq])
        have h1 : ¬ (k : Int) < ((bs l).size : Int) := by rw [HSZ.out]; omega
        have H2 : Hid (decide ((k : Int) + 1 ≤ ((bs l).size : Int)) = false) := Lib.hid (decide_eq_false (by rw [HSZ.out]; omega))
        obtain ⟨kk, hkk⟩ : ∃ kk, kk = k := ⟨_, rfl⟩
        have hkb : (kk : Int) ≤ 4294967290 := by omega
        rw [← hkk] at h1 H2 ⊢
        clear hq hk hkk
        go_wp2_with fail
        go_region
        go_wp2_with fail
        go_ret3
        exact HN.out _ (by first | exact HB.out.drew | exact HB.out) HV.out _ _ _ H2.out
  | false =>
    have HV0 : Hid (vEnd l = some (l.takeWhile nsep).length) := Lib.hid (by unfold vEnd; rw [HBQ.out]; rfl)
    rcases HT.out with ⟨hz, ht⟩ | hz
    · subst hz
      have HTT := Lib.hid ht
      clear ht
      go_wp2_with fail
      go_quiet (fail)
      go_wp2_with fail
      go_ret3
      rw [← HP.out]
      refine ⟨below_drewN HB1.out _, ?_⟩
      rw [HV0.out, HTT.out]
      simp only [HSZ.out]
      rw [List.take_length, List.drop_length]
      rfl
    · obtain ⟨m, hm⟩ : ∃ m, (l.takeWhile nsep).length = m := ⟨_, rfl⟩
      have hml : m ≤ l.length := by rw [← hm]; exact (List.takeWhile_sublist nsep).length_le
      rw [hm] at hz HV0
      subst hz
      have hmz : ¬ (m : Int) < 0 := by omega
      have hmb : (m : Int) ≤ ((bs l).size : Int) := by rw [HSZ.out]; omega
      clear hm hml
      go_wp2_with fail
      go_quiet (fail)
      go_wp2_with fail
      go_ret3
      rw [← HP.out]
      refine ⟨below_drewN HB1.out _, ?_⟩
      rw [HV0.out]
      simp only
      rw [take_bs, drop_bs]
      rfl
def VePost (l : List UInt8) (at_ : Nat) (w : World) (e : Ending) (w' : World) : Prop :=
  w = w' ∧ match vEnd (l.drop at_) with
    | some m => e = .returned (.tuple #[.int .i64 ((at_ + m : Nat) : Int), .bool true])
    | none => ∃ z, e = .returned (.tuple #[.int .i64 z, .bool false])
def InVe (l : List UInt8) (at_ : Nat) (w : World) (v : Value) (wr : World) : Prop :=
  ∃ k : Nat, v = .int .i64 ((at_ + k : Nat) : Int) ∧ 1 ≤ k ∧ ((at_ + k ≤ l.length ∧ qa 1 (l.drop (at_ + 1)) = qa k (l.drop (at_ + k))) ∨ (at_ + k = l.length + 1 ∧ qa 1 (l.drop (at_ + 1)) = none)) ∧ w = wr
def InVw (l : List UInt8) (at_ : Nat) (w : World) (v : Value) (wr : World) : Prop :=
  ∃ k : Nat, v = .int .i64 ((at_ + k : Nat) : Int) ∧ at_ + k ≤ l.length ∧ ((l.drop at_).takeWhile nsep).length = k + ((l.drop (at_ + k)).takeWhile nsep).length ∧ w = wr
set_option maxHeartbeats 4000000 in
theorem vend36 (l : List UInt8) (at_ : Nat) (hl : l.length < 4294967281) (ha : at_ ≤ l.length) (w : World) : Calls Tryz.prog 36 #[.string (bs l), .int .i64 (at_ : Int)] w (VePost l at_ w) := by
  obtain ⟨P, hP⟩ : ∃ P, VePost l at_ w = P := ⟨_, rfl⟩
  have HP := Lib.hid hP
  rw [hP]
  have HSZ := Lib.hid (bs_size l)
  clear hP
  obtain ⟨bq, hbq⟩ : ∃ b, headIs 34 (l.drop at_) = b := ⟨_, rfl⟩
  have HBQ := Lib.hid hbq
  clear hbq
  go_enter Tryz.func36, Tryz.ntmps36
  go_upto_region 1 with (fail)
  go_cut [16] from 7 to 16 (fun v w' => v = .bool bq ∧ w = w')
  case first =>
    rcases list_cases (l.drop at_) with e | ⟨c, t, e⟩
    · have h1 := (at_nil ha e).1
      obtain rfl : false = bq := by rw [← HBQ.out, e]; rfl
      clear e
      go_wp2_with fail
      go_meet
      case rel => exact ⟨rfl, rfl⟩
    · obtain ⟨hlt, hg, hz, hd, hkl⟩ := at_cons e
      by_cases h34 : c = 34
      · have c34 : ((c.toNat : Int) == 34) = true := byte_eq c 34 (by decide) h34
        obtain rfl : true = bq := by rw [← HBQ.out, e, h34]; rfl
        clear e h34 hd
        go_wp2_with fail
        go_meet
        case rel => exact ⟨rfl, rfl⟩
      · have c34 : ((c.toNat : Int) == 34) = false := byte_ne c 34 (by decide) h34
        obtain rfl : false = bq := by rw [← HBQ.out, e]; simp [headIs, h34]
        clear e h34 hd
        go_wp2_with fail
        go_meet
        case rel => exact ⟨rfl, rfl⟩
  case rest =>
    obtain ⟨rfl, rfl⟩ := hcut
    cases bq with
    | true =>
      have HV0 : Hid (vEnd (l.drop at_) = qa 1 (l.drop (at_ + 1))) := Lib.hid (by unfold vEnd; rw [HBQ.out, if_pos rfl, List.tail_drop])
      have HA1 : at_ + 1 ≤ l.length := by
        have := HBQ.out
        rcases list_cases (l.drop at_) with e | ⟨c, t, e⟩
        · rw [e] at this; cases this
        · exact (at_cons e).2.2.2.2
      go_wp2_with fail
      go_loopw [6] (fun v wr => InVe l at_ w v wr) (fun v _ => l.length + 1 - (intOf v).toNat)
      case atStart => exact ⟨1, rfl, Nat.le_refl _, .inl ⟨HA1, rfl⟩, rfl⟩
      case round =>
        obtain ⟨k, rfl, hk1, hq, rfl⟩ := hrel
        obtain ⟨q, hqk⟩ : ∃ q, at_ + k = q := ⟨_, rfl⟩
        rw [hqk] at hq ⊢
        rcases hq with ⟨hk, hq⟩ | ⟨hk, hq⟩
        · rcases list_cases (l.drop q) with e | ⟨c, t, e⟩
          · have h1 := (at_nil hk e).1
            have HV : Hid (vEnd (l.drop at_) = none) := Lib.hid (by rw [HV0.out, hq, e]; rfl)
            clear hq e
            go_wp2_with fail
            rw [← HP.out]
            refine ⟨rfl, ?_⟩
            rw [HV.out]
            exact ⟨_, rfl⟩
          · obtain ⟨hlt, hg, hz, hd, hkl⟩ := at_cons e
            by_cases h92 : c = 92
            · have c92 : ((c.toNat : Int) == 92) = true := byte_eq c 92 (by decide) h92
              have HR : Hid (InVe l at_ w (.int .i64 ((q : Int) + 1 + 1)) w) := Lib.hid (by
                cases t with
                | nil => exact ⟨k + 2, congrArg (Value.int .i64) (by omega), by omega, .inr ⟨by have := congrArg List.length e; simp at this; omega, by rw [hq, e, h92, qa_esc0]⟩, rfl⟩
                | cons d r =>
                  have hd2 : l.drop (at_ + (k + 2)) = r := by
                    rw [show at_ + (k + 2) = q + 2 by omega, ← List.drop_drop, e]; rfl
                  exact ⟨k + 2, congrArg (Value.int .i64) (by omega), by omega, .inl ⟨by have := congrArg List.length e; simp at this; omega, by rw [hq, e, h92, qa_esc, hd2]⟩, rfl⟩)
              clear hq e h92 hd
              go_wp2_with fail
              go_roundw
              case rel => exact HR.out
              case measure => simp [intOf]; omega
            · have c92 : ((c.toNat : Int) == 92) = false := byte_ne c 92 (by decide) h92
              by_cases h34 : c = 34
              · have c34 : ((c.toNat : Int) == 34) = true := byte_eq c 34 (by decide) h34
                have HV : Hid (vEnd (l.drop at_) = some (k + 1)) := Lib.hid (by rw [HV0.out, hq, e, h34, qa_q])
                have HQ : Hid ((q : Int) + 1 = ((at_ + (k + 1) : Nat) : Int)) := Lib.hid (by omega)
                clear hq e h34 h92 hd hqk
                go_wp2_with fail
                rw [← HP.out]
                refine ⟨rfl, ?_⟩
                rw [HV.out]
                simp only [HQ.out]
                all_goals rfl
              · have c34 : ((c.toNat : Int) == 34) = false := byte_ne c 34 (by decide) h34
                have HR : Hid (InVe l at_ w (.int .i64 ((q : Int) + 1)) w) := Lib.hid ⟨k + 1, congrArg (Value.int .i64) (by omega), by omega, .inl ⟨by omega, by rw [hq, e, qa_next _ _ _ h34 h92, show at_ + (k + 1) = q + 1 by omega, hd]⟩, rfl⟩
                clear hq e h34 h92 hd
                go_wp2_with fail
                go_roundw
                case rel => exact HR.out
                case measure => simp [intOf]; omega
        · have HV : Hid (vEnd (l.drop at_) = none) := Lib.hid (by rw [HV0.out, hq])
          have h1 : ¬ (q : Int) < ((bs l).size : Int) := by rw [HSZ.out]; omega
          clear hq hk hqk
          go_wp2_with fail
          rw [← HP.out]
          refine ⟨rfl, ?_⟩
          rw [HV.out]
          exact ⟨_, rfl⟩
    | false =>
      have HV0 : Hid (vEnd (l.drop at_) = some ((l.drop at_).takeWhile nsep).length) := Lib.hid (by unfold vEnd; rw [HBQ.out]; rfl)
      go_wp2_with fail
      go_loopw [1] (fun v wr => InVw l at_ w v wr) (fun v _ => l.length + 1 - (intOf v).toNat)
      case atStart => exact ⟨0, rfl, ha, by simp, rfl⟩
      case round =>
        obtain ⟨k, rfl, hk, ht, rfl⟩ := hrel
        obtain ⟨q, hqk⟩ : ∃ q, at_ + k = q := ⟨_, rfl⟩
        rw [hqk] at hk ht ⊢
        rcases list_cases (l.drop q) with e | ⟨c, t, e⟩
        · have h1 := (at_nil hk e).1
          have HV : Hid (vEnd (l.drop at_) = some k) := Lib.hid (by rw [HV0.out, ht, e]; rfl)
          have HQ : Hid ((q : Int) = ((at_ + k : Nat) : Int)) := Lib.hid (by omega)
          clear e ht hqk
          go_wp2_with fail
          rw [← HP.out]
          refine ⟨rfl, ?_⟩
          rw [HV.out]
          simp only [HQ.out]
          all_goals rfl
        · obtain ⟨hlt, hg, hz, hd, hkl⟩ := at_cons e
          rw [e, List.takeWhile_cons] at ht
          by_cases h44 : c = 44
          · have c44 : ((c.toNat : Int) != 44) = false := by rw [h44]; rfl
            have HV : Hid (vEnd (l.drop at_) = some k) := Lib.hid (by rw [HV0.out, ht, h44]; rfl)
            have HQ : Hid ((q : Int) = ((at_ + k : Nat) : Int)) := Lib.hid (by omega)
            clear e ht hqk h44 hd
            go_wp2_with fail
            rw [← HP.out]
            refine ⟨rfl, ?_⟩
            rw [HV.out]
            simp only [HQ.out]
            all_goals rfl
          · have c44 : ((c.toNat : Int) != 44) = true := byte_bne c 44 (by decide) h44
            by_cases h32 : c = 32
            · have c32 : ((c.toNat : Int) != 32) = false := by rw [h32]; rfl
              have HV : Hid (vEnd (l.drop at_) = some k) := Lib.hid (by rw [HV0.out, ht, h32]; rfl)
              have HQ : Hid ((q : Int) = ((at_ + k : Nat) : Int)) := Lib.hid (by omega)
              clear e ht hqk h44 h32 hd
              go_wp2_with fail
              rw [← HP.out]
              refine ⟨rfl, ?_⟩
              rw [HV.out]
              simp only [HQ.out]
              all_goals rfl
            · have c32 : ((c.toNat : Int) != 32) = true := byte_bne c 32 (by decide) h32
              have hns : nsep c = true := by simp [nsep, h44, h32]
              rw [hns, if_pos rfl] at ht
              have HR : Hid (InVw l at_ w (.int .i64 ((q : Int) + 1)) w) := Lib.hid ⟨k + 1, congrArg (Value.int .i64) (by omega), by omega, by rw [show at_ + (k + 1) = q + 1 by omega, hd, ht]; simp; omega, rfl⟩
              clear e ht h44 h32 hd hns
              go_wp2_with fail
              go_roundw
              case rel => exact HR.out
              case measure => simp [intOf]; omega
end Go.Proofs.YtagiddbfhlokcaaGreatDoor.Ser
/- The text of 1.5. Conditions: the cells of the two tables of powers. -/
namespace Go.Proofs.YtagiddbfhlokcaaGreatDoor.One
open Go.RowKit
end Go.Proofs.YtagiddbfhlokcaaGreatDoor.One
/- value.Float at any float. Conditions: the tables of powers. -/
namespace Go.Proofs.YtagiddbfhlokcaaGreatDoor.Ff
open Go.RowKit Go.Sort
set_option maxRecDepth 100000
/-- The exponent's text and Atoi. -/
theorem atoi_102 {X : Int} (h1 : -999 ≤ X) (h2 : X ≤ 999) (w : World) : Calls Tryz.prog 102 #[.string (bs ((if X < 0 then 45 else 43) :: PF.expT X.natAbs))] w fun e w' => e = .returned (.tuple #[.int .i64 X, .nilIface]) ∧ Below w.heap.size w w' := by
  have hl := PF.exp_len X.natAbs
  refine (Tryz.strconv_Atoi (bs ((if X < 0 then 45 else 43) :: PF.expT X.natAbs)) X (by rw [bs_size, List.length_cons]; omega) (by rw [bs_list]; exact PF.atoi_exp h1 h2) w).mono ?_
  rintro e w' ⟨rfl, t, rfl⟩
  exact ⟨rfl, Lib.bytesWorld_below _ _ _⟩
theorem grow_bel (w : World) (k : Nat) (os : Array Obj) : Below w.heap.size w (grow (w.drewN k) os) := by
  refine ⟨rfl, rfl, rfl, by simp [grow], fun i hi => ?_⟩
  simp only [grow]
  rw [Array.getElem?_append_left (by simpa using hi)]
  rfl
theorem itoa_103 {X : Int} (h1 : -999 ≤ X) (h2 : X ≤ 999) (w : World) (htab : Lib.TabIs Tryz.prog w "internal/strconv.uint64pow10" .u64 Lib.pow10Tab) : Calls Tryz.prog 103 #[.int .i64 X] w fun e w' => e = .returned (.string (bs (Lib.itoa X))) ∧ Below w.heap.size w w' := by
  refine (Tryz.strconv_Itoa X (by omega) (by omega) w htab).mono ?_
  rintro e w' ⟨rfl, k, os, rfl⟩
  exact ⟨rfl, grow_bel _ _ _⟩
end Go.Proofs.YtagiddbfhlokcaaGreatDoor.Ff
/- The reference's way to a float's text is the same text. No condition. -/
namespace PF
open Go
/-- The digits as they stand in a text: a nought if there are none. -/
def gD (D : List UInt8) : List UInt8 := if D = [] then [48] else D
def gM (G : List UInt8) : List UInt8 := G.headD 48 :: (if 2 ≤ G.length then 46 :: G.tail else [])
/-- The text by the reference's cases. -/
def gTx (neg : Bool) (G : List UInt8) (X : Int) : List UInt8 :=
  if X < -4 ∨ 15 < X then sgT neg ++ (gM G ++ 101 :: Lib.itoa X)
  else if X < 0 then sgT neg ++ (48 :: 46 :: (List.replicate (-X - 1).toNat 48 ++ G))
  else if (G.length : Int) ≤ X + 1 then sgT neg ++ (G ++ List.replicate (X + 1 - G.length).toNat 48)
  else sgT neg ++ (G.take (X + 1).toNat ++ 46 :: G.drop (X + 1).toNat)
theorem fmtM_g (neg : Bool) (D : List UInt8) : fmtM neg D = sgT neg ++ gM (gD D) := by
  unfold fmtM gM gD
  by_cases h : D = []
  · subst h; rfl
  · rw [if_neg h]
theorem flTx_g (neg : Bool) {D : List UInt8} {dp : Int} (h0 : D = [] → dp = 0) : flTx neg D dp = gTx neg (gD D) (fX D dp) := by
  unfold flTx gTx
  by_cases hD : D = []
  · have := h0 hD
    subst hD
    subst this
    cases neg <;> decide
  · have hX : fX D dp = dp - 1 := by unfold fX; rw [if_neg hD]
    have hG : gD D = D := by unfold gD; rw [if_neg hD]
    have hl : 1 ≤ D.length := by
      cases D with
      | nil => exact absurd rfl hD
      | cons c r => simp
    rw [fmtM_g, hX, hG]
    by_cases h1 : -4 ≤ dp - 1 ∧ dp - 1 ≤ 15
    · rw [if_pos h1, if_neg (by omega)]
      unfold fmtF
      by_cases h2 : dp - 1 < 0
      · rw [if_pos h2, if_neg (by omega), if_pos (by omega)]
        rw [show dp.toNat = 0 by omega, List.drop_zero, show (-(dp - 1) - 1).toNat = (-dp).toNat by omega]
        rfl
      · rw [if_neg h2, if_pos (by omega)]
        by_cases h3 : (D.length : Int) ≤ dp - 1 + 1
        · rw [if_pos h3, if_neg (by omega), List.append_nil, List.take_of_length_le (by omega), show (dp - 1 + 1 - D.length).toNat = dp.toNat - D.length by omega]
        · rw [if_neg h3, if_pos (by omega), show dp.toNat - D.length = 0 by omega, show (-dp).toNat = 0 by omega, show (dp - 1 + 1).toNat = dp.toNat by omega]
          simp
    · rw [if_neg h1, if_pos (by omega), List.append_assoc]
end PF
