/- Several texts of this proof, laid together. Conditions: as each says. -/
import Derived.Test.YtagiddbfhlokcaaGreatDoorBAX
import Derived.Test.YtagiddbfhlokcaaGreatDoorBAR
import Derived.Test.YtagiddbfhlokcaaGreatDoorBAW
/- A value's text cut off a line, by the program and by the reference. Condition: the text's length. -/
namespace Go.Proofs.YtagiddbfhlokcaaGreatDoor.Ser
open Go.RowKit Go.Sort
set_option maxRecDepth 100000
def CvPost (l : List UInt8) (w : World) (e : Ending) (w' : World) : Prop :=
  Below w.heap.size w w' ∧ match vEnd l with
    | some m => e = .returned (.tuple #[.string (bs (l.take m)), .string (bs (l.drop m)), .bool true])
    | none => ∃ a b, e = .returned (.tuple #[.string a, .string b, .bool false])
def InCv (l : List UInt8) (w : World) (v : Value) (wr : World) : Prop :=
  ∃ k : Nat, v = .int .i64 (k : Int) ∧ 1 ≤ k ∧ ((k ≤ l.length ∧ qa 1 l.tail = qa k (l.drop k)) ∨ (k = l.length + 1 ∧ qa 1 l.tail = none)) ∧ Below w.heap.size w wr
theorem take_bs (l : List UInt8) (k : Nat) : (bs l).extract 0 k = bs (l.take k) := by
  apply ByteArray.ext
  apply Array.toList_inj.1
  rw [Lib.extract_data, bs_list, bs_list]
  simp
theorem drop_bs (l : List UInt8) (k : Nat) : (bs l).extract k (bs l).size = bs (l.drop k) := by
  apply ByteArray.ext
  apply Array.toList_inj.1
  rw [Lib.extract_data, bs_list, bs_list, bs_size]
  rw [List.take_of_length_le (by simp)]
theorem byte_bne (c : UInt8) (n : Nat) (hn : n < 256) (h : c ≠ UInt8.ofNat n) : ((c.toNat : Int) != (n : Int)) = true := by
  have := byte_ne c n hn h
  rw [bne, this]; rfl
set_option maxHeartbeats 4000000 in
theorem cutv42 (l : List UInt8) (hl : l.length < 4294967281) (w : World) : Calls Tryz.prog 42 #[.string (bs l)] w (CvPost l w) := by
  have M82 := Lib.hid (fun w => any82 (bs l) (by rw [bs_size]; exact hl) w)
  rw [bs_list] at M82
  have M41 := Lib.hid (fun w => hasP l 34 w)
  obtain ⟨z, hz⟩ : ∃ z, Lib.indexAny l [44, 32] = z := ⟨_, rfl⟩
  have HT := Lib.hid (any_tw l)
  rw [hz] at M82 HT
  obtain ⟨P, hP⟩ : ∃ P, CvPost l w = P := ⟨_, rfl⟩
  have HP := Lib.hid hP
  rw [hP]
  have HSZ := Lib.hid (bs_size l)
  obtain ⟨bq, hbq⟩ : ∃ b, headIs 34 l = b := ⟨_, rfl⟩
  rw [hbq] at M41
  have HBQ := Lib.hid hbq
  clear hz hP hbq
  go_enter Tryz.func42, Tryz.ntmps42
  go_wp2_with fail
  refine (M82.out _).mono ?_
  rintro e w1 ⟨rfl, hb1⟩
  have HB1 := Lib.hid hb1
  clear hb1
  go_wp2_with fail
  refine (M41.out _).mono ?_
  rintro e w' ⟨rfl, rfl⟩
  cases bq with
  | true =>
    go_wp2_with fail
    go_loopw [5] (fun v wr => InCv l w v wr) (fun v _ => l.length + 1 - (intOf v).toNat)
    case atStart =>
      refine ⟨1, rfl, Nat.le_refl _, .inl ⟨?_, ?_⟩, HB1.out⟩
      · have := HBQ.out
        cases l with
        | nil => cases this
        | cons c r => simp
      · rw [List.drop_one]
    case round =>
      obtain ⟨k, rfl, hk1, hq, hb⟩ := hrel
      have HB := Lib.hid hb
      clear hb
      have HNONE : ∀ wz, Below w.heap.size w wz → vEnd l = none → ∀ a b : ByteArray, ∀ q : Bool, q = false → P (.returned (.tuple #[.string a, .string b, .bool q])) wz := fun wz hb hv a b q hq => by
        rw [← HP.out, hq]
        refine ⟨hb, ?_⟩
        rw [hv]
        exact ⟨a, b, rfl⟩
      have HN := Lib.hid HNONE
      have HV0 : Hid (vEnd l = qa 1 l.tail) := Lib.hid (by unfold vEnd; rw [HBQ.out, if_pos rfl])
      clear HNONE
      rcases hq with ⟨hk, hq⟩ | ⟨hk, hq⟩
      · rcases list_cases (l.drop k) with e | ⟨c, t, e⟩
        · have hke : l.length ≤ k := List.drop_eq_nil_iff.1 e
          have HV : Hid (vEnd l = none) := Lib.hid (by rw [HV0.out, hq, e]; rfl)
          have h1 : ¬ (k : Int) < ((bs l).size : Int) := by rw [HSZ.out]; omega
          have H2 : Hid (decide ((k : Int) + 1 ≤ ((bs l).size : Int)) = false) := Lib.hid (decide_eq_false (by rw [HSZ.out]; omega))
          have hkb : (k : Int) ≤ 4294967290 := by omega
          clear hq e hke hk
          go_wp2_with fail
          go_region
          go_wp2_with fail
          go_ret3
          exact HN.out _ (by first | exact HB.out.drew | exact HB.out) HV.out _ _ _ H2.out
        · obtain ⟨hlt, hg, hz, hd, hkl⟩ := at_cons e
          by_cases h34 : c = 34
          · have c34 : ((c.toNat : Int) != 34) = false := by rw [h34]; rfl
            have HV : Hid (vEnd l = some (k + 1)) := Lib.hid (by rw [HV0.out, hq, e, h34, qa_q])
            have HM : Hid (min ((k : Int) + 1) ((bs l).size : Int) = ((k + 1 : Nat) : Int)) := Lib.hid (by rw [HSZ.out]; omega)
            have H2 : Hid (decide ((k : Int) + 1 ≤ ((bs l).size : Int)) = true) := Lib.hid (decide_eq_true (by rw [HSZ.out]; omega))
            clear hq e hk h34
            go_wp2_with fail
            go_region
            go_wp2_with fail
            go_ret3
            rw [← HP.out]
            refine ⟨HB.out.drew, ?_⟩
            rw [HV.out]
            simp only [HM.out, H2.out, Int.toNat_natCast]
            rw [take_bs, drop_bs]
            rfl
          · have c34 : ((c.toNat : Int) != 34) = true := byte_bne c 34 (by decide) h34
            by_cases h92 : c = 92
            · have c92 : ((c.toNat : Int) == 92) = true := byte_eq c 92 (by decide) h92
              cases t with
              | nil =>
                have HR : Hid (InCv l w (.int .i64 ((k : Int) + 1 + 1)) wr) := Lib.hid ⟨k + 2, congrArg (Value.int .i64) (by omega), by omega, .inr ⟨by have := congrArg List.length e; simp at this; omega, by rw [hq, e, h92, qa_esc0]⟩, HB.out⟩
                clear hq e h34 h92 hd
                go_wp2_with fail
                go_roundw
                case rel => exact HR.out
                case measure => simp [intOf]; omega
              | cons d r =>
                have hd2 : l.drop (k + 2) = r := by rw [← List.drop_drop, e]; rfl
                have HR : Hid (InCv l w (.int .i64 ((k : Int) + 1 + 1)) wr) := Lib.hid ⟨k + 2, congrArg (Value.int .i64) (by omega), by omega, .inl ⟨by have := congrArg List.length e; simp at this; omega, by rw [hq, e, h92, qa_esc, hd2]⟩, HB.out⟩
                clear hq e h34 h92 hd hd2
                go_wp2_with fail
                go_roundw
                case rel => exact HR.out
                case measure => simp [intOf]; omega
            · have c92 : ((c.toNat : Int) == 92) = false := byte_ne c 92 (by decide) h92
              have HR : Hid (InCv l w (.int .i64 ((k : Int) + 1)) wr) := Lib.hid ⟨k + 1, congrArg (Value.int .i64) (by omega), by omega, .inl ⟨hkl, by rw [hq, e, qa_next _ _ _ h34 h92, hd]⟩, HB.out⟩
              clear hq e h34 h92 hd
              go_wp2_with fail
              go_roundw
              case rel => exact HR.out
              case measure => simp [intOf]; omega
      · have HV : Hid (vEnd l = none) := Lib.hid (by rw [HV0.out, hq])
        have h1 : ¬ (k : Int) < ((bs l).size : Int) := by rw [HSZ.out]; omega
        have H2 : Hid (decide ((k : Int) + 1 ≤ ((bs l).size : Int)) = false) := Lib.hid (decide_eq_false (by rw [HSZ.out]; omega))
        obtain ⟨kk, hkk⟩ : ∃ kk, kk = k := ⟨_, rfl⟩
        have hkb : (kk : Int) ≤ 4294967290 := by omega
        rw [← hkk] at h1 H2 ⊢
        clear hq hk hkk
        go_wp2_with fail
        go_region
        go_wp2_with fail
        go_ret3
        exact HN.out _ (by first | exact HB.out.drew | exact HB.out) HV.out _ _ _ H2.out
  | false =>
    have HV0 : Hid (vEnd l = some (l.takeWhile nsep).length) := Lib.hid (by unfold vEnd; rw [HBQ.out]; rfl)
    rcases HT.out with ⟨hz, ht⟩ | hz
    · subst hz
      have HTT := Lib.hid ht
      clear ht
      go_wp2_with fail
      go_quiet (fail)
      go_wp2_with fail
      go_ret3
      rw [← HP.out]
      refine ⟨below_drewN HB1.out _, ?_⟩
      rw [HV0.out, HTT.out]
      simp only [HSZ.out]
      rw [List.take_length, List.drop_length]
      rfl
    · obtain ⟨m, hm⟩ : ∃ m, (l.takeWhile nsep).length = m := ⟨_, rfl⟩
      have hml : m ≤ l.length := by rw [← hm]; exact (List.takeWhile_sublist nsep).length_le
      rw [hm] at hz HV0
      subst hz
      have hmz : ¬ (m : Int) < 0 := by omega
      have hmb : (m : Int) ≤ ((bs l).size : Int) := by rw [HSZ.out]; omega
      clear hm hml
      go_wp2_with fail
      go_quiet (fail)
      go_wp2_with fail
      go_ret3
      rw [← HP.out]
      refine ⟨below_drewN HB1.out _, ?_⟩
      rw [HV0.out]
      simp only
      rw [take_bs, drop_bs]
      rfl
def VePost (l : List UInt8) (at_ : Nat) (w : World) (e : Ending) (w' : World) : Prop :=
  w = w' ∧ match vEnd (l.drop at_) with
    | some m => e = .returned (.tuple #[.int .i64 ((at_ + m : Nat) : Int), .bool true])
    | none => ∃ z, e = .returned (.tuple #[.int .i64 z, .bool false])
def InVe (l : List UInt8) (at_ : Nat) (w : World) (v : Value) (wr : World) : Prop :=
  ∃ k : Nat, v = .int .i64 ((at_ + k : Nat) : Int) ∧ 1 ≤ k ∧ ((at_ + k ≤ l.length ∧ qa 1 (l.drop (at_ + 1)) = qa k (l.drop (at_ + k))) ∨ (at_ + k = l.length + 1 ∧ qa 1 (l.drop (at_ + 1)) = none)) ∧ w = wr
def InVw (l : List UInt8) (at_ : Nat) (w : World) (v : Value) (wr : World) : Prop :=
  ∃ k : Nat, v = .int .i64 ((at_ + k : Nat) : Int) ∧ at_ + k ≤ l.length ∧ ((l.drop at_).takeWhile nsep).length = k + ((l.drop (at_ + k)).takeWhile nsep).length ∧ w = wr
set_option maxHeartbeats 4000000 in
theorem vend36 (l : List UInt8) (at_ : Nat) (hl : l.length < 4294967281) (ha : at_ ≤ l.length) (w : World) : Calls Tryz.prog 36 #[.string (bs l), .int .i64 (at_ : Int)] w (VePost l at_ w) := by
  obtain ⟨P, hP⟩ : ∃ P, VePost l at_ w = P := ⟨_, rfl⟩
  have HP := Lib.hid hP
  rw [hP]
  have HSZ := Lib.hid (bs_size l)
  clear hP
  obtain ⟨bq, hbq⟩ : ∃ b, headIs 34 (l.drop at_) = b := ⟨_, rfl⟩
  have HBQ := Lib.hid hbq
  clear hbq
  go_enter Tryz.func36, Tryz.ntmps36
  go_upto_region 1 with (fail)
  go_cut [16] from 7 to 16 (fun v w' => v = .bool bq ∧ w = w')
  case first =>
    rcases list_cases (l.drop at_) with e | ⟨c, t, e⟩
    · have h1 := (at_nil ha e).1
      obtain rfl : false = bq := by rw [← HBQ.out, e]; rfl
      clear e
      go_wp2_with fail
      go_meet
      case rel => exact ⟨rfl, rfl⟩
    · obtain ⟨hlt, hg, hz, hd, hkl⟩ := at_cons e
      by_cases h34 : c = 34
      · have c34 : ((c.toNat : Int) == 34) = true := byte_eq c 34 (by decide) h34
        obtain rfl : true = bq := by rw [← HBQ.out, e, h34]; rfl
        clear e h34 hd
        go_wp2_with fail
        go_meet
        case rel => exact ⟨rfl, rfl⟩
      · have c34 : ((c.toNat : Int) == 34) = false := byte_ne c 34 (by decide) h34
        obtain rfl : false = bq := by rw [← HBQ.out, e]; simp [headIs, h34]
        clear e h34 hd
        go_wp2_with fail
        go_meet
        case rel => exact ⟨rfl, rfl⟩
  case rest =>
    obtain ⟨rfl, rfl⟩ := hcut
    cases bq with
    | true =>
      have HV0 : Hid (vEnd (l.drop at_) = qa 1 (l.drop (at_ + 1))) := Lib.hid (by unfold vEnd; rw [HBQ.out, if_pos rfl, List.tail_drop])
      have HA1 : at_ + 1 ≤ l.length := by
        have := HBQ.out
        rcases list_cases (l.drop at_) with e | ⟨c, t, e⟩
        · rw [e] at this; cases this
        · exact (at_cons e).2.2.2.2
      go_wp2_with fail
      go_loopw [6] (fun v wr => InVe l at_ w v wr) (fun v _ => l.length + 1 - (intOf v).toNat)
      case atStart => exact ⟨1, rfl, Nat.le_refl _, .inl ⟨HA1, rfl⟩, rfl⟩
      case round =>
        obtain ⟨k, rfl, hk1, hq, rfl⟩ := hrel
        obtain ⟨q, hqk⟩ : ∃ q, at_ + k = q := ⟨_, rfl⟩
        rw [hqk] at hq ⊢
        rcases hq with ⟨hk, hq⟩ | ⟨hk, hq⟩
        · rcases list_cases (l.drop q) with e | ⟨c, t, e⟩
          · have h1 := (at_nil hk e).1
            have HV : Hid (vEnd (l.drop at_) = none) := Lib.hid (by rw [HV0.out, hq, e]; rfl)
            clear hq e
            go_wp2_with fail
            rw [← HP.out]
            refine ⟨rfl, ?_⟩
            rw [HV.out]
            exact ⟨_, rfl⟩
          · obtain ⟨hlt, hg, hz, hd, hkl⟩ := at_cons e
            by_cases h92 : c = 92
            · have c92 : ((c.toNat : Int) == 92) = true := byte_eq c 92 (by decide) h92
              have HR : Hid (InVe l at_ w (.int .i64 ((q : Int) + 1 + 1)) w) := Lib.hid (by
                cases t with
                | nil => exact ⟨k + 2, congrArg (Value.int .i64) (by omega), by omega, .inr ⟨by have := congrArg List.length e; simp at this; omega, by rw [hq, e, h92, qa_esc0]⟩, rfl⟩
                | cons d r =>
                  have hd2 : l.drop (at_ + (k + 2)) = r := by
                    rw [show at_ + (k + 2) = q + 2 by omega, ← List.drop_drop, e]; rfl
                  exact ⟨k + 2, congrArg (Value.int .i64) (by omega), by omega, .inl ⟨by have := congrArg List.length e; simp at this; omega, by rw [hq, e, h92, qa_esc, hd2]⟩, rfl⟩)
              clear hq e h92 hd
              go_wp2_with fail
              go_roundw
              case rel => exact HR.out
              case measure => simp [intOf]; omega
            · have c92 : ((c.toNat : Int) == 92) = false := byte_ne c 92 (by decide) h92
              by_cases h34 : c = 34
              · have c34 : ((c.toNat : Int) == 34) = true := byte_eq c 34 (by decide) h34
                have HV : Hid (vEnd (l.drop at_) = some (k + 1)) := Lib.hid (by rw [HV0.out, hq, e, h34, qa_q])
                have HQ : Hid ((q : Int) + 1 = ((at_ + (k + 1) : Nat) : Int)) := Lib.hid (by omega)
                clear hq e h34 h92 hd hqk
                go_wp2_with fail
                rw [← HP.out]
                refine ⟨rfl, ?_⟩
                rw [HV.out]
                simp only [HQ.out]
                all_goals rfl
              · have c34 : ((c.toNat : Int) == 34) = false := byte_ne c 34 (by decide) h34
                have HR : Hid (InVe l at_ w (.int .i64 ((q : Int) + 1)) w) := Lib.hid ⟨k + 1, congrArg (Value.int .i64) (by omega), by omega, .inl ⟨by omega, by rw [hq, e, qa_next _ _ _ h34 h92, show at_ + (k + 1) = q + 1 by omega, hd]⟩, rfl⟩
                clear hq e h34 h92 hd
                go_wp2_with fail
                go_roundw
                case rel => exact HR.out
                case measure => simp [intOf]; omega
        · have HV : Hid (vEnd (l.drop at_) = none) := Lib.hid (by rw [HV0.out, hq])
          have h1 : ¬ (q : Int) < ((bs l).size : Int) := by rw [HSZ.out]; omega
          clear hq hk hqk
          go_wp2_with fail
          rw [← HP.out]
          refine ⟨rfl, ?_⟩
          rw [HV.out]
          exact ⟨_, rfl⟩
    | false =>
      have HV0 : Hid (vEnd (l.drop at_) = some ((l.drop at_).takeWhile nsep).length) := Lib.hid (by unfold vEnd; rw [HBQ.out]; rfl)
      go_wp2_with fail
      go_loopw [1] (fun v wr => InVw l at_ w v wr) (fun v _ => l.length + 1 - (intOf v).toNat)
      case atStart => exact ⟨0, rfl, ha, by simp, rfl⟩
      case round =>
        obtain ⟨k, rfl, hk, ht, rfl⟩ := hrel
        obtain ⟨q, hqk⟩ : ∃ q, at_ + k = q := ⟨_, rfl⟩
        rw [hqk] at hk ht ⊢
        rcases list_cases (l.drop q) with e | ⟨c, t, e⟩
        · have h1 := (at_nil hk e).1
          have HV : Hid (vEnd (l.drop at_) = some k) := Lib.hid (by rw [HV0.out, ht, e]; rfl)
          have HQ : Hid ((q : Int) = ((at_ + k : Nat) : Int)) := Lib.hid (by omega)
          clear e ht hqk
          go_wp2_with fail
          rw [← HP.out]
          refine ⟨rfl, ?_⟩
          rw [HV.out]
          simp only [HQ.out]
          all_goals rfl
        · obtain ⟨hlt, hg, hz, hd, hkl⟩ := at_cons e
          rw [e, List.takeWhile_cons] at ht
          by_cases h44 : c = 44
          · have c44 : ((c.toNat : Int) != 44) = false := by rw [h44]; rfl
            have HV : Hid (vEnd (l.drop at_) = some k) := Lib.hid (by rw [HV0.out, ht, h44]; rfl)
            have HQ : Hid ((q : Int) = ((at_ + k : Nat) : Int)) := Lib.hid (by omega)
            clear e ht hqk h44 hd
            go_wp2_with fail
            rw [← HP.out]
            refine ⟨rfl, ?_⟩
            rw [HV.out]
            simp only [HQ.out]
            all_goals rfl
          · have c44 : ((c.toNat : Int) != 44) = true := byte_bne c 44 (by decide) h44
            by_cases h32 : c = 32
            · have c32 : ((c.toNat : Int) != 32) = false := by rw [h32]; rfl
              have HV : Hid (vEnd (l.drop at_) = some k) := Lib.hid (by rw [HV0.out, ht, h32]; rfl)
              have HQ : Hid ((q : Int) = ((at_ + k : Nat) : Int)) := Lib.hid (by omega)
              clear e ht hqk h44 h32 hd
              go_wp2_with fail
              rw [← HP.out]
              refine ⟨rfl, ?_⟩
              rw [HV.out]
              simp only [HQ.out]
              all_goals rfl
            · have c32 : ((c.toNat : Int) != 32) = true := byte_bne c 32 (by decide) h32
              have hns : nsep c = true := by simp [nsep, h44, h32]
              rw [hns, if_pos rfl] at ht
              have HR : Hid (InVw l at_ w (.int .i64 ((q : Int) + 1)) w) := Lib.hid ⟨k + 1, congrArg (Value.int .i64) (by omega), by omega, by rw [show at_ + (k + 1) = q + 1 by omega, hd, ht]; simp; omega, rfl⟩
              clear e ht h44 h32 hd hns
              go_wp2_with fail
              go_roundw
              case rel => exact HR.out
              case measure => simp [intOf]; omega
end Go.Proofs.YtagiddbfhlokcaaGreatDoor.Ser
/- A name that ends with a sign, by the reference. Condition: the text's length. -/
namespace Go.Proofs.YtagiddbfhlokcaaGreatDoor.Ser
open Go.RowKit Go.Sort
set_option maxRecDepth 100000
theorem scan_suffix : ∀ (n : Nat) {acc l b r : List UInt8}, l.length ≤ n → scan acc l = some (b, r) → ∃ k, r = l.drop k
  | n, acc, [], b, r, _, h => by
    simp [scan] at h
    exact ⟨0, by rw [h.2]; rfl⟩
  | 0, acc, c :: l, b, r, hn, h => by simp at hn
  | n + 1, acc, c :: l, b, r, hn, h => by
    by_cases h92 : c.toNat = 92
    · cases l with
      | nil => rw [scan_end _ _ h92] at h; cases h
      | cons d l =>
        cases hs : spec d with
        | true =>
          rw [scan_esc _ _ _ _ h92 hs] at h
          obtain ⟨k, hk⟩ := scan_suffix n (by simp at hn; omega) h
          exact ⟨k + 2, by rw [hk]; rfl⟩
        | false => rw [scan_bad _ _ _ _ h92 hs] at h; cases h
    · cases hs : spec c with
      | true =>
        rw [scan_stop _ _ _ h92 hs] at h
        simp at h
        exact ⟨0, by rw [← h.2]; rfl⟩
      | false =>
        rw [scan_plain _ _ _ h92 hs] at h
        obtain ⟨k, hk⟩ := scan_suffix n (by simp at hn; omega) h
        exact ⟨k + 1, by rw [hk]; rfl⟩
/-- What a scan leaves is the text from the place on at which it ended. -/
theorem scan_rest {l : List UInt8} {k0 : Nat} {b r : List UInt8} (hk0 : k0 ≤ l.length) (h : scan [] (l.drop k0) = some (b, r)) : r = l.drop (l.length - r.length) ∧ k0 ≤ l.length - r.length ∧ r.length ≤ l.length := by
  obtain ⟨k, hk⟩ := scan_suffix _ (Nat.le_refl _) h
  have hl := (scan_len _ (Nat.le_refl _) h).1
  rw [List.length_drop] at hl
  rw [List.drop_drop] at hk
  have h1 : r.length = l.length - (k0 + k) := by rw [hk, List.length_drop]
  refine ⟨?_, by omega, by omega⟩
  by_cases h2 : k0 + k ≤ l.length
  · rw [show l.length - r.length = k0 + k by omega]; exact hk
  · have h3 : r = [] := List.eq_nil_of_length_eq_zero (by omega)
    rw [h3]
    simp
def PcPost (l : List UInt8) (k0 : Nat) (w : World) (e : Ending) (w' : World) : Prop :=
  Below w.heap.size w w' ∧ ∃ (n : ByteArray) (z : Int) (ok : Bool), e = .returned (.tuple #[.string n, .int .i64 z, .bool ok]) ∧
    (ok = true → ∃ nb r, scan [] (l.drop k0) = some (nb, r) ∧ n = ofL nb ∧ z = ((l.length - r.length : Nat) : Int)) ∧ (ok = false → scan [] (l.drop k0) = none)
theorem part33 (l : List UInt8) (k0 : Nat) (w : World) (hl : l.length ≤ 140737488355328) (hk0 : k0 ≤ l.length) : Calls Tryz.prog 33 #[.string (bs l), .int .i64 (k0 : Int)] w (PcPost l k0 w) := by
  refine (part (bs l) k0 w (by rw [bs_size]; exact hl) (by rw [bs_size]; exact hk0)).mono ?_
  rw [bs_list]
  rintro e w' ⟨hb, h⟩
  refine ⟨hb, ?_⟩
  cases hs : scan [] (l.drop k0) with
  | none =>
    rw [hs] at h
    obtain ⟨z, rfl⟩ := h
    exact ⟨_, _, _, rfl, (fun h => nomatch h), fun _ => rfl⟩
  | some p =>
    obtain ⟨nb, r⟩ := p
    rw [hs] at h
    simp only at h
    rw [bs_size] at h
    exact ⟨_, _, _, h, (fun _ => ⟨nb, r, rfl, rfl, rfl⟩), fun h => nomatch h⟩
def NmPost (l : List UInt8) (k0 : Nat) (sg : UInt8) (w : World) (e : Ending) (w' : World) : Prop :=
  Below w.heap.size w w' ∧ ∃ (n : ByteArray) (z : Int) (ok : Bool), e = .returned (.tuple #[.string n, .int .i64 z, .bool ok]) ∧
    (ok = true → ∃ nb r, scan [] (l.drop k0) = some (nb, r) ∧ nameB nb = true ∧ headIs sg r = true ∧ n = ofL nb ∧ z = ((l.length - r.length : Nat) : Int)) ∧
    (ok = false → scan [] (l.drop k0) = none ∨ ∃ nb r, scan [] (l.drop k0) = some (nb, r) ∧ (nameB nb && headIs sg r) = false)
set_option maxHeartbeats 4000000 in
theorem name35 (l : List UInt8) (k0 : Nat) (sg : UInt8) (w : World) (hl : l.length ≤ 140737488355328) (hk0 : k0 ≤ l.length) : Calls Tryz.prog 35 #[.string (bs l), .int .i64 (k0 : Int), .int .u8 (sg.toNat : Int)] w (NmPost l k0 sg w) := by
  obtain ⟨P, hP⟩ : ∃ P, NmPost l k0 sg w = P := ⟨_, rfl⟩
  have HP := Lib.hid hP
  rw [hP]
  have MP := Lib.hid (part33 l k0 w hl hk0)
  have HSZ := Lib.hid (bs_size l)
  have HSC := Lib.hid (fun (nb r : List UInt8) (h : scan [] (l.drop k0) = some (nb, r)) => And.intro (scan_rest hk0 h) (scan_len _ (Nat.le_refl _) h).2)
  clear hP
  go_enter Tryz.func35, Tryz.ntmps35
  go_wp2_with fail
  refine MP.out.mono ?_
  rintro e w1 ⟨hb, n, z, ok, rfl, hy, hn⟩
  have HB := Lib.hid hb
  clear hb
  cases ok with
  | false =>
    have HN := Lib.hid (hn rfl)
    clear hy hn
    go_wp2_with fail
    go_quiet (fail)
    go_wp2_with fail
    go_ret3
    rw [← HP.out]
    exact ⟨below_drewN HB.out _, _, _, _, rfl, (fun h => nomatch h), fun _ => .inl HN.out⟩
  | true =>
    obtain ⟨nb, r, hs, rfl, rfl⟩ := hy rfl
    have HS := Lib.hid hs
    obtain ⟨⟨hr1, hr2, hr3⟩, hr4⟩ := HSC.out nb r hs
    obtain ⟨q, hq⟩ : ∃ q, l.length - r.length = q := ⟨_, rfl⟩
    rw [hq] at hr1 hr2 ⊢
    have HQ := Lib.hid hq
    have M34 : ∀ n, Calls Tryz.prog 34 #[.string (ofL nb)] (w1.drewN n) fun e w' => e = .returned (.bool (nameB nb)) ∧ ∃ m, w' = w1.drewN m := fun n =>
      (rname (ofL nb) (w1.drewN n) (by rw [show (ofL nb).size = nb.length by simp [ofL, ByteArray.size]]; unfold maxLen; simp at hr4; omega)).mono fun e w' ⟨h1, h2⟩ => ⟨by rw [h1]; simp [ofL], n, h2.symm⟩
    obtain ⟨bn, hbn⟩ : ∃ b, nameB nb = b := ⟨_, rfl⟩
    rw [hbn] at M34
    have MN := Lib.hid M34
    have HBN := Lib.hid hbn
    clear hy hn hs hq M34 hbn
    cases bn with
    | false =>
      clear hr1 hr2 hr3 hr4
      go_wp2_with fail
      go_quiet ((go_at_call 34; with_reducible exact MN.out _))
      go_wp2_with fail
      go_ret3
      rw [← HP.out]
      exact ⟨below_drewN HB.out _, _, _, _, rfl, (fun h => nomatch h), fun _ => .inr ⟨nb, r, HS.out, by rw [HBN.out]; rfl⟩⟩
    | true =>
      rcases list_cases (l.drop q) with e | ⟨c, t, e⟩
      · have hql : l.length ≤ q := List.drop_eq_nil_iff.1 e
        have H1 : Hid (decide (q < (bs l).size) = false) := Lib.hid (decide_eq_false (by rw [HSZ.out]; omega))
        have HRN : Hid (headIs sg r = false) := Lib.hid (by rw [hr1, e]; rfl)
        clear hr1 hr2 hr3 hr4 e hql
        go_wp2_with fail
        have h1 := H1.out
        go_quiet ((go_at_call 34; with_reducible exact MN.out _))
        go_wp2_with fail
        go_ret3
        rw [← HP.out]
        exact ⟨below_drewN HB.out _, _, _, _, rfl, (fun h => nomatch h), fun _ => .inr ⟨nb, r, HS.out, by rw [HRN.out, Bool.and_false]⟩⟩
      · obtain ⟨hlt, hg, hz, hd, hkl⟩ := at_cons e
        by_cases hc : c = sg
        · have hcc : ((c.toNat : Int) == (sg.toNat : Int)) = true := by rw [hc]; simp
          have HRN : Hid (headIs sg r = true) := Lib.hid (by rw [hr1, e, hc]; simp [headIs])
          clear hr1 hr2 hr3 hr4 e hd hkl hc
          go_wp2_with fail
          go_quiet ((go_at_call 34; with_reducible exact MN.out _))
          go_wp2_with fail
          go_ret3
          rw [← HP.out]
          exact ⟨below_drewN HB.out _, _, _, _, rfl, (fun _ => ⟨nb, r, HS.out, HBN.out, HRN.out, rfl, by rw [HQ.out]⟩), fun h => nomatch h⟩
        · have hcc : ((c.toNat : Int) == (sg.toNat : Int)) = false := by
            rw [beq_eq_false_iff_ne]
            intro h
            exact hc (UInt8.toNat_inj.1 (by omega))
          have HRN : Hid (headIs sg r = false) := Lib.hid (by rw [hr1, e]; simp [headIs, hc])
          clear hr1 hr2 hr3 hr4 e hd hkl hc
          go_wp2_with fail
          go_quiet ((go_at_call 34; with_reducible exact MN.out _))
          go_wp2_with fail
          go_ret3
          rw [← HP.out]
          exact ⟨below_drewN HB.out _, _, _, _, rfl, (fun h => nomatch h), fun _ => .inr ⟨nb, r, HS.out, by rw [HRN.out, Bool.and_false]⟩⟩
end Go.Proofs.YtagiddbfhlokcaaGreatDoor.Ser
/- Reading a line by the program: the fields. Conditions: the text's length; the readers of values. -/
namespace Go.Proofs.YtagiddbfhlokcaaGreatDoor.Ser
open Go.RowKit Go.Sort
set_option maxRecDepth 100000
theorem cutPost_cases {o : Option (List UInt8 × List UInt8)} {w : World} {e : Ending} {w' : World} (h : CutPost o w e w') : ∃ b s ok, e = .returned (.tuple #[.string b, .string s, .bool ok]) ∧ (ok = true → ∃ bl r, o = some (bl, r) ∧ b = ofL bl ∧ s = bs r) ∧ (ok = false → o = none) ∧ Below w.heap.size w w' := by
  obtain ⟨hb, h⟩ := h
  cases o with
  | none =>
    obtain ⟨t, rfl⟩ := h
    exact ⟨_, _, _, rfl, (fun h => nomatch h), fun _ => rfl, hb⟩
  | some p =>
    obtain ⟨b, r⟩ := p
    simp only at h
    exact ⟨_, _, _, h, fun _ => ⟨b, r, rfl, rfl, rfl⟩, (fun h => nomatch h), hb⟩
theorem cut39 (r : List UInt8) (w : World) (hs : r.length ≤ 140737488355328) : Calls Tryz.prog 39 #[.string (bs r)] w (CutPost (scan [] r) w) := by
  have h := cut (bs r) w (by rw [bs_size]; exact hs)
  rw [bs_list] at h
  exact h
theorem ofL_size (l : List UInt8) : (ofL l).size = l.length := by simp [ofL, ByteArray.size]
theorem name40 (nb : List UInt8) (h : nb.length ≤ 140737488355328) (w : World) : Calls Tryz.prog 40 #[.string (ofL nb)] w fun e w' => e = .returned (.bool (nameB nb)) ∧ Below w.heap.size w w' := by
  have := vname (ofL nb) w (by rw [ofL_size]; unfold maxLen; omega)
  rw [show (ofL nb).data.toList = nb by simp [ofL]] at this
  exact this
theorem name_sized {nb : List UInt8} (h : nameB nb = true) : (ofL nb).size ≤ maxLen := by
  unfold nameB at h
  simp at h
  rw [ofL_size]
  unfold maxLen
  omega
/-- What comes behind a field. -/
def nextP (V : List UInt8 → Value × Int) (now : Int) (n : Nat) (acc acc' : List Fd) : List UInt8 → Int × List Fd × Int
  | [] => (0, acc', now)
  | c :: r3 => if c = 44 then fieldsP V now n acc' r3 else if c = 32 then ((PF.intP r3).2, acc', (PF.intP r3).1) else (2, acc, 0)
section
variable {V : List UInt8 → Value × Int} {now : Int} {n : Nat} {acc : List Fd} {r kb r1 : List UInt8}
theorem fp_none (h : scan [] r = none) : fieldsP V now (n + 1) acc r = (2, acc, 0) := by unfold fieldsP; rw [h]
theorem fp_bad (h : scan [] r = some (kb, r1)) (hb : (nameB kb && headIs 61 r1) = false) : fieldsP V now (n + 1) acc r = (2, acc, 0) := by unfold fieldsP; rw [h]; simp only; rw [hb]; rfl
theorem fp_noend (h : scan [] r = some (kb, r1)) (hb : (nameB kb && headIs 61 r1) = true) (hv : vEnd r1.tail = none) : fieldsP V now (n + 1) acc r = (2, acc, 0) := by
  unfold fieldsP; rw [h]; simp only; rw [hb, hv]; rfl
theorem fp_err {m : Nat} (h : scan [] r = some (kb, r1)) (hb : (nameB kb && headIs 61 r1) = true) (hv : vEnd r1.tail = some m) (he : (V (r1.tail.take m)).2 ≠ 0) : fieldsP V now (n + 1) acc r = ((V (r1.tail.take m)).2, acc, 0) := by
  unfold fieldsP; rw [h]; simp only; rw [hb, hv]; simp only [if_true]; rw [if_neg he]
theorem fp_ok {m : Nat} (h : scan [] r = some (kb, r1)) (hb : (nameB kb && headIs 61 r1) = true) (hv : vEnd r1.tail = some m) (he : (V (r1.tail.take m)).2 = 0) : fieldsP V now (n + 1) acc r =
    nextP V now n acc (acc ++ [(ofL kb, valF (V (r1.tail.take m)).1)]) (r1.tail.drop m) := by
  rw [fieldsP, h]; simp only; rw [hb, hv]; simp only [if_true]; rw [if_pos he]
  cases r1.tail.drop m <;> rfl
end
theorem finP_err {name : ByteArray} {tags : List Tg} {er : Int} {acc : List Fd} {t : Int} (h : er ≠ 0) : finP name tags (er, acc, t) = (er, none) := by unfold finP; rw [if_neg h]
/-- A value stored where the last was. -/
theorem PMem.setVal {name : ByteArray} {tags : List Tg} {fields : List Fd} {v vf : Value} {tm : Int} {w wr : World} (k b : Int) (t : ByteArray) (h : PMem name tags fields v vf tm w wr) :
    PMem name tags fields v vf tm w (((wr.setCell ⟨w.heap.size + 2, 0, none⟩ (.int .i64 k)).setCell ⟨w.heap.size + 2, 1, none⟩ (.int .u64 b)).setCell ⟨w.heap.size + 2, 2, none⟩ (.string t)) := by
  obtain ⟨k0, b0, t0, h3⟩ := h.val
  have g1 := heap_setCell_same wr (w.heap.size + 2) 0 _ _ (.int .i64 k) h3
  have g2 := heap_setCell_same _ (w.heap.size + 2) 1 _ _ (.int .u64 b) g1
  have g3 := heap_setCell_same _ (w.heap.size + 2) 2 _ _ (.string t) g2
  have other : ∀ j, j < w.heap.size + 2 → (((wr.setCell ⟨w.heap.size + 2, 0, none⟩ (.int .i64 k)).setCell ⟨w.heap.size + 2, 1, none⟩ (.int .u64 b)).setCell ⟨w.heap.size + 2, 2, none⟩ (.string t)).heap[j]? = wr.heap[j]? := fun j hj => by
    rw [Below.heap_setCell _ _ _ _ (by simp; omega), Below.heap_setCell _ _ _ _ (by simp; omega), Below.heap_setCell _ _ _ _ (by simp; omega)]
  exact ⟨(other _ (by omega)).trans h.res, (other _ (by omega)).trans h.row, ⟨k, b, t, g3⟩, ownsRow_setCell_below (ownsRow_setCell_below (ownsRow_setCell_below h.rt (by simp) _) (by simp) _) (by simp) _,
    ownsRow_setCell_below (ownsRow_setCell_below (ownsRow_setCell_below h.rf (by simp) _) (by simp) _) (by simp) _, h.ap, ((h.bel.setCell (by simp) _).setCell (by simp) _).setCell (by simp) _⟩
theorem PMem.setVal_at {name : ByteArray} {tags : List Tg} {fields : List Fd} {v vf : Value} {tm : Int} {w wr : World} (k b : Int) (t : ByteArray) (h : PMem name tags fields v vf tm w wr) :
    (((wr.setCell ⟨w.heap.size + 2, 0, none⟩ (.int .i64 k)).setCell ⟨w.heap.size + 2, 1, none⟩ (.int .u64 b)).setCell ⟨w.heap.size + 2, 2, none⟩ (.string t)).heap[w.heap.size + 2]? = some (.cells #[.int .i64 k, .int .u64 b, .string t] 53 (0, 0)) := by
  obtain ⟨k0, b0, t0, h3⟩ := h.val
  have g1 := heap_setCell_same wr (w.heap.size + 2) 0 _ _ (.int .i64 k) h3
  have g2 := heap_setCell_same _ (w.heap.size + 2) 1 _ _ (.int .u64 b) g1
  exact heap_setCell_same _ (w.heap.size + 2) 2 _ _ (.string t) g2
theorem PMem.vcells {name : ByteArray} {tags : List Tg} {fields : List Fd} {v vf : Value} {tm : Int} {w wr : World} (h : PMem name tags fields v vf tm w wr) : ∃ k b t,
    wr.cell? ⟨w.heap.size + 2, 0, none⟩ = some (.int .i64 k) ∧ wr.cell? ⟨w.heap.size + 2, 1, none⟩ = some (.int .u64 b) ∧ wr.cell? ⟨w.heap.size + 2, 2, none⟩ = some (.string t) ∧ wr.frozen? ⟨w.heap.size + 2, 0, none⟩ = false ∧ wr.frozen? ⟨w.heap.size + 2, 1, none⟩ = false ∧ wr.frozen? ⟨w.heap.size + 2, 2, none⟩ = false := by
  obtain ⟨k, b, t, h3⟩ := h.val
  exact ⟨k, b, t, Lib.cell_of_heap h3 0, Lib.cell_of_heap h3 1, Lib.cell_of_heap h3 2, Lib.frozen_of_heap h3 0, Lib.frozen_of_heap h3 1, Lib.frozen_of_heap h3 2⟩
/-- Behind an append to the fields. -/
theorem PMem.grownF {name : ByteArray} {tags : List Tg} {fields : List Fd} {v vf : Value} {tm : Int} {w wr w' : World} {o : Obj} (h : PMem name tags fields v vf tm w wr) (hg : (wr.alloc o).grownBy w' vf.ownBlock) :
    w'.heap[w.heap.size]? = some (.cells #[.string ⟨#[]⟩, .slice none 0 0, .slice none 0 0, .int .i64 0] 27 (0, 0)) ∧ w'.heap[w.heap.size + 1]? = some (.cells #[.string name, v, vf, .int .i64 tm] 27 (0, 0)) ∧ (∃ k b t, w'.heap[w.heap.size + 2]? = some (.cells #[.int .i64 k, .int .u64 b, .string t] 53 (0, 0))) ∧ RT w' (w.heap.size + 3) v tags ∧ Below w.heap.size w w' := by
  obtain ⟨k, b, t, h3⟩ := h.val
  have l3 := lt_of_block h3
  have ne : ∀ j, j < w.heap.size + 3 → some j ≠ vf.ownBlock := fun j hj e => by have := (h.rf.lt j e.symm).1; omega
  have al : ∀ j, j < wr.heap.size → (wr.alloc o).heap[j]? = wr.heap[j]? := fun j hj => Below.heap_alloc wr o _ hj
  refine ⟨(hg.block _ (by simp; omega) (ne _ (by omega))).trans ((al _ (by omega)).trans h.res), (hg.block _ (by simp; omega) (ne _ (by omega))).trans ((al _ (by omega)).trans h.row), ⟨k, b, t, (hg.block _ (by simp; omega) (ne _ (by omega))).trans ((al _ (by omega)).trans h3)⟩, ?_, ?_⟩
  · refine (World.ownsRow.alloc h.rt o).kept hg ?_
    cases hv : v.ownBlock with
    | none => exact .inl rfl
    | some g => exact .inr fun e => h.ap g hv e.symm
  · exact (h.bel.alloc h.bel.size o).grown hg (by simp; omega) (fun j hj => by have := (h.rf.lt j hj).1; omega)
theorem PMem.appendF {name : ByteArray} {tags : List Tg} {fields : List Fd} {v vf v1 : Value} {tm : Int} {w wr w' : World} {o : Obj} {p : Fd} {n : Nat} {xs : List Value} (h : PMem name tags fields v vf tm w wr) (hg : (wr.alloc o).grownBy w' vf.ownBlock)
    (hat : v1.ownBlock = vf.ownBlock ∨ v1.ownBlock = some (wr.alloc o).heap.size) (hown : w'.ownsRow (w.heap.size + 3) 64 4 v1 n xs) (hn : n = fields.length + 1) (hx : xs = fields.flatMap encF ++ encF p) :
    PMem name tags (fields ++ [p]) v v1 tm w (w'.setCell ⟨w.heap.size + 1, 2, none⟩ v1) := by
  obtain ⟨f0, f1, ⟨k, b, t, f2⟩, f3, f4⟩ := h.grownF hg
  subst hn hx
  refine ⟨by rw [Below.heap_setCell _ _ _ _ (by simp)]; exact f0, ?_, ⟨k, b, t, ?_⟩, ownsRow_setCell_below f3 (by simp) _, ?_, ?_, f4.setCell (by simp) _⟩
  · rw [heap_setCell_same _ _ _ _ _ _ f1]; rfl
  · rw [Below.heap_setCell _ _ _ _ (by simp)]; exact f2
  · rw [RF, List.length_append, List.flatMap_append]
    exact ownsRow_setCell_below (by simpa using hown) (by simp) _
  · intro g hv e
    rcases hat with h1 | h1
    · rw [h1] at e; exact h.ap g hv e
    · rw [h1] at e
      have := (h.rt.lt g hv).2
      injection e with e
      simp at e
      omega
theorem PMem.setTime {name : ByteArray} {tags : List Tg} {fields : List Fd} {v vf : Value} {tm : Int} {w wr : World} (t : Int) (h : PMem name tags fields v vf tm w wr) : PMem name tags fields v vf t w (wr.setCell ⟨w.heap.size + 1, 3, none⟩ (.int .i64 t)) := by
  obtain ⟨k0, b0, t0, h3⟩ := h.val
  refine ⟨by rw [Below.heap_setCell _ _ _ _ (by simp)]; exact h.res, ?_, ⟨k0, b0, t0, by rw [Below.heap_setCell _ _ _ _ (by simp)]; exact h3⟩, ownsRow_setCell_below h.rt (by simp) _, ownsRow_setCell_below h.rf (by simp) _, h.ap, h.bel.setCell (by simp) _⟩
  rw [heap_setCell_same _ _ _ _ _ _ h.row]; rfl
theorem wp_gen {P : Program} {c : Code} {Q : Exit → Act → World → Prop} {a : Act} {W : World} (R : World → Prop) (h : R W) (k : ∀ w, R w → Code.wp P c Q a w) : Code.wp P c Q a W := k W h
end Go.Proofs.YtagiddbfhlokcaaGreatDoor.Ser
