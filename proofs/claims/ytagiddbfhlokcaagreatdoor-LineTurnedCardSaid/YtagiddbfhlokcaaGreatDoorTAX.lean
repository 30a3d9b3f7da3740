/- Several texts of this proof, laid together. Conditions: as each says. -/
import Derived.Test.YtagiddbfhlokcaaGreatDoorTAW
import Derived.Laws.RangeAny
import Derived.Laws.Runes
import Derived.Lib.DecodeN
import Derived.Lib.IndexAny
import Derived.WalkMore
import Derived.Lib.OthersKept
import Derived.Test.YtagiddbfhlokcaaGreatDoorTAV
import Derived.Deep.CutBlock
import Derived.Outline
/- strings.IndexAny at a comma and a blank, whatever the bytes; a value's text cut off a line. Condition: the text's length. -/
namespace Go.Proofs.YtagiddbfhlokcaaGreatDoor.Ser
open Go.RowKit Go.Sort
set_option maxRecDepth 100000
theorem dec_high (n b0 b1 b2 b3 : Nat) (hn : 1 ≤ n) (h0 : 128 ≤ b0) : (128 ≤ (Lib.decodeN n b0 b1 b2 b3).1 ∧ (Utf8.valid ((Lib.decodeN n b0 b1 b2 b3).1 : Int) = true) ∧ 1 ≤ (Lib.decodeN n b0 b1 b2 b3).2 ∧ (Lib.decodeN n b0 b1 b2 b3).2 ≤ n ∧
    (2 ≤ (Lib.decodeN n b0 b1 b2 b3).2 → 128 ≤ b1) ∧ (3 ≤ (Lib.decodeN n b0 b1 b2 b3).2 → 128 ≤ b2) ∧ (4 ≤ (Lib.decodeN n b0 b1 b2 b3).2 → 128 ≤ b3) ∧ (Lib.decodeN n b0 b1 b2 b3).2 ≤ 4) := by
  unfold Lib.decodeN Utf8.valid
  repeat' split
  all_goals simp
  all_goals omega
theorem decode_high2 (s : ByteArray) (i : Nat) (hi : i < s.size) (h : 128 ≤ (s.get! i).toNat) : 128 ≤ (Utf8.decode s i).1 ∧ Utf8.valid ((Utf8.decode s i).1 : Int) = true ∧ 1 ≤ (Utf8.decode s i).2 ∧ i + (Utf8.decode s i).2 ≤ s.size ∧ ∀ j, i ≤ j → j < i + (Utf8.decode s i).2 → 128 ≤ (s.get! j).toNat := by
  rw [Lib.decode_at]
  obtain ⟨h1, h2, h3, h4, h5, h6, h7, h8⟩ := dec_high (s.size - i) (s.get! i).toNat (s.get! (i + 1)).toNat (s.get! (i + 2)).toNat (s.get! (i + 3)).toNat (by omega) h
  refine ⟨h1, h2, h3, by omega, fun j hj1 hj2 => ?_⟩
  obtain ⟨k, rfl⟩ : ∃ k, j = i + k := ⟨j - i, by omega⟩
  match k, hj2 with
  | 0, _ => exact h
  | 1, hj2 => exact h5 (by omega)
  | 2, hj2 => exact h6 (by omega)
  | 3, hj2 => exact h7 (by omega)
  | k + 4, hj2 => omega
set_option maxHeartbeats 2000000 in
theorem rune116 (r : Nat) (hv : Utf8.valid (r : Int) = true) (h128 : 128 ≤ r) (w : World) : Calls Tryz.prog 116 #[.string ⟨#[44, 32]⟩, .int .i32 (r : Int)] w fun e w' => e = .returned (.int .i64 (-1)) ∧ Below w.heap.size w w' := by
  have h1 : ¬ (r : Int) < 128 := by omega
  have h0 : (0 : Int) ≤ (r : Int) := by omega
  have hval : Lib.validRune (r : Int) = true := by
    unfold Utf8.valid at hv
    unfold Lib.validRune
    simp at hv ⊢
    omega
  by_cases h : r = 65533
  · have hr : ((r : Int) == 65533) = true := by rw [h]; rfl
    clear h hv hval h128
    go_enter Tryz.func116, Tryz.ntmps116
    go_wp2_with fail
    go_loopg [5, 6] 2 (fun g _ _ wx => ∃ i : Nat, i + g = 2 ∧ wx = w.iter ⟨#[44, 32]⟩ i)
    case atStart => exact ⟨0, rfl, rfl⟩
    case round =>
      obtain ⟨i, hig, rfl⟩ := hrel
      match i, hig with
      | 0, hig =>
        obtain rfl : gk = 2 := by omega
        have hnx := fun ty => run_next_ascii (P := Tryz.prog) w ⟨#[44, 32]⟩ 0 ty (by decide) (by decide)
        go_wp2_with fail
        go_roundg 1
        case measure => omega
        case rel => exact ⟨1, rfl, rfl⟩
      | 1, hig =>
        obtain rfl : gk = 1 := by omega
        have hnx := fun ty => run_next_ascii (P := Tryz.prog) w ⟨#[44, 32]⟩ 1 ty (by decide) (by decide)
        go_wp2_with fail
        go_roundg 0
        case measure => omega
        case rel => exact ⟨2, rfl, rfl⟩
      | i + 2, hig =>
        obtain rfl : i = 0 := by omega
        have hnx := fun ty => run_next_end (P := Tryz.prog) w ⟨#[44, 32]⟩ 2 ty (by decide)
        go_wp2_with fail
        go_ret
        exact ⟨rfl, (Below.refl _ _).alloc (Nat.le_refl _) _⟩
  · have hr : ((r : Int) == 65533) = false := by rw [beq_eq_false_iff_ne]; omega
    obtain ⟨e1, e2, e3⟩ := encode_facts (r : Int) hv (by omega)
    obtain ⟨rs, hrs⟩ : ∃ rs, Utf8.encode (r : Int) = rs := ⟨_, rfl⟩
    have hconv : ∀ w, (convert 21 9 (.int .i32 (r : Int))).run Tryz.prog w = .ok (.string rs) w := fun w => by
      rw [← hrs]; exact run_convert_int_string w 21 9 .i32 (r : Int) (by rw [Tryz.underlying21]; rfl) Tryz.underlying9
    rw [hrs] at e1 e2 e3
    have MV := Lib.hid (Tryz.utf8_ValidRune (r : Int) w)
    rw [hval] at MV
    clear h h128 hv hval hrs
    obtain ⟨n, hn⟩ : ∃ n, rs.size = n + 1 := ⟨rs.size - 1, by omega⟩
    have hi0 : (rs.size : Int) - 1 = (n : Int) := by omega
    have hn1 : 1 ≤ n := by omega
    have hn3 : n ≤ 3 := by omega
    by_cases h2 : n = 1
    · subst h2
      have hlt : 1 < rs.size := by omega
      obtain ⟨c, hc⟩ : ∃ c, rs[1] = c := ⟨_, rfl⟩
      have hc128 : 128 ≤ c.toNat := by
        have := e3 (by omega)
        simp only [hn] at this
        rw [← hc]
        exact this
      have hne : ((((⟨#[44, 32]⟩ : ByteArray)[1]'(by decide)).toNat : Int) != (c.toNat : Int)) = true := by
        have : (((⟨#[44, 32]⟩ : ByteArray)[1]'(by decide)).toNat : Int) = 32 := by decide
        rw [this]; simp; omega
      have MI : ∀ w, Calls Tryz.prog 70 #[.string ByteArray.empty, .int .u8 (c.toNat : Int)] w fun e w' => e = .returned (.int .i64 (-1)) ∧ w' = w := fun w => Tryz.strings_IndexByte ⟨#[]⟩ (c.toNat : Int) w
      have M70 := Lib.hid MI
      have hw2 : IntKind.i64.wrap 2 = 2 := by kernel_rfl
      have hsl : ByteArray.extract ⟨#[44, 32]⟩ 2 2 = ⟨#[]⟩ := by decide
      clear e1 e2 e3 hc128 MI
      go_enter Tryz.func116, Tryz.ntmps116
      go_wp2_with fail
      refine MV.out.mono ?_
      rintro e w' ⟨rfl, rfl⟩
      go_wp2_with fail
      go_step3
      go_wp2_with fail
      go_loopw [9] (fun v wr => v = .int .i64 1 ∧ w' = wr) (fun _ _ => 0)
      case atStart => exact ⟨rfl, rfl⟩
      case round =>
        obtain ⟨rfl, rfl⟩ := hrel
        go_wp2_with fail
        go_step3
        go_wp2_with fail
        go_quiet (fail)
        go_wp2_with fail
        have MQ : Hid (∀ n, Calls Tryz.prog 70 #[.string ByteArray.empty, .int .u8 (c.toNat : Int)] (w'.drewN (nq + n)) fun e w2 => e = .returned (.int .i64 (-1)) ∧ ∃ m, w2 = w'.drewN (nq + m)) := Lib.hid fun n => (M70.out _).mono fun e w2 ⟨h1, h2⟩ => ⟨h1, n, h2⟩
        go_quiet ((go_at_call 70; with_reducible exact MQ.out _))
        go_wp2_with fail
        simp (config := { zetaDelta := true }) only [Exit.noGoto, Exit.inBlock, Exit.then]
        go_ret
        exact ⟨rfl, below_drewN (Below.refl _ _) _⟩
    · have hge : (2 : Int) ≤ (n : Int) := by omega
      clear e1 e2 e3
      go_enter Tryz.func116, Tryz.ntmps116
      go_wp2_with fail
      refine MV.out.mono ?_
      rintro e w' ⟨rfl, rfl⟩
      go_wp2_with fail
      go_step3
      go_wp2_with fail
      go_loopw [9] (fun v wr => v = .int .i64 (n : Int) ∧ w' = wr) (fun _ _ => 0)
      case atStart => exact ⟨rfl, rfl⟩
      case round =>
        obtain ⟨rfl, rfl⟩ := hrel
        have hge2 : ¬ (n : Int) < 2 := by omega
        go_wp2_with fail
        go_ret
        exact ⟨rfl, Below.refl _ _⟩
theorem h171 : (Tryz.prog.info? 171).map (fun i => (i.zero, i.size)) = some (some (.agg (Array.replicate 256 (.bool false))), 256) := by kernel_rfl
theorem sep_contains (c : UInt8) : [44, 32].contains c = !nsep c := by
  unfold nsep
  rw [Bool.eq_iff_iff]
  simp
theorem high_nsep {c : UInt8} (h : 128 ≤ c.toNat) : nsep c = true := by
  unfold nsep
  simp
  constructor <;> (rintro rfl; simp at h)
theorem any_tw : ∀ l : List UInt8, (Lib.indexAny l [44, 32] = -1 ∧ l.takeWhile nsep = l) ∨ (Lib.indexAny l [44, 32] = ((l.takeWhile nsep).length : Int))
  | [] => .inl ⟨rfl, rfl⟩
  | c :: l => by
    cases h : nsep c with
    | true =>
      have hc : [44, 32].contains c = false := by rw [sep_contains, h]; rfl
      rcases any_tw l with ⟨h1, h2⟩ | h1
      · left
        refine ⟨?_, by rw [List.takeWhile_cons, if_pos h, h2]⟩
        unfold Lib.indexAny
        rw [hc, h1]; rfl
      · right
        unfold Lib.indexAny
        rw [hc, List.takeWhile_cons, if_pos h, h1]
        have : (((l.takeWhile nsep).length : Int) == -1) = false := by rw [beq_eq_false_iff_ne]; omega
        rw [this]
        simp
    | false =>
      right
      have hc : [44, 32].contains c = true := by rw [sep_contains, h]; rfl
      unfold Lib.indexAny
      rw [hc, List.takeWhile_cons, h]
      rfl
theorem noAny_run {s : ByteArray} {i n : Nat} (h : Lib.NoAny s.data.toList [44, 32] i) (hd : ∀ j, i ≤ j → j < i + n → 128 ≤ (s.get! j).toNat) : Lib.NoAny s.data.toList [44, 32] (i + n) := by
  intro j b hj hb
  by_cases h1 : j < i
  · exact h j b h1 hb
  · have h2 := hd j (by omega) hj
    have h3 : s.get! j = b := by
      show s.data[j]! = b
      rw [Array.getElem?_toList] at hb
      rw [getElem!_def, hb]
    rw [h3] at h2
    rw [sep_contains, high_nsep h2]; rfl
set_option maxHeartbeats 2000000 in
theorem any82s (s : ByteArray) (hl : s.size ≤ 8) (w : World) : Calls Tryz.prog 82 #[.string s, .string ⟨#[44, 32]⟩] w fun e w' => e = .returned (.int .i64 (Lib.indexAny s.data.toList [44, 32])) ∧ Below w.heap.size w w' := by
  have h8 : decide ((8 : Int) < (s.size : Int)) = false := decide_eq_false (by omega)
  have h8n : ¬ (8 : Int) < (s.size : Int) := by omega
  have M117 : Hid (∀ w, Calls Tryz.prog 117 #[.int .i64 (s.size : Int)] w fun e w' => e = .returned (.bool (decide ((8 : Int) < (s.size : Int)))) ∧ w' = w) := Lib.hid fun w => Tryz.strings_shouldUseASCIISet _ w
  rw [h8] at M117
  go_enter Tryz.func82, Tryz.ntmps82
  go_wp2_with fail
  refine (M117.out _).mono ?_
  rintro e w' ⟨rfl, rfl⟩
  go_wp2_with fail
  go_loopg [9, 10] s.size (fun g _ _ wx => ∃ i : Nat, i + g = s.size ∧ wx.heap[w'.heap.size]? = some (.stringIter s i) ∧ Below w'.heap.size w' wx ∧ Lib.NoAny s.data.toList [44, 32] i)
  case atStart => exact ⟨0, by omega, World.iter_heap _ _ _, (Below.refl _ _).alloc (Nat.le_refl _) _, Lib.NoAny.zero _ _⟩
  case round =>
    obtain ⟨i, hig, hk, hb, hno⟩ := hrel
    have HN := Lib.hid hno
    have HB := Lib.hid hb
    have HK := Lib.hid hk
    clear hno hb hk
    cases gk with
    | zero =>
      obtain rfl : i = s.size := by omega
      have hnx := fun ty => Lib.run_next_end_at (P := Tryz.prog) wr w'.heap.size s s.size ty HK.out (by omega)
      go_wp2_with fail
      go_ret
      exact ⟨by rw [Lib.indexAny_none (by rw [← Lib.size_eq]; exact HN.out)]; rfl, HB.out⟩
    | succ g =>
      have hi : i < s.size := by omega
      obtain ⟨x, hx⟩ : ∃ x : UInt8, s[i]'hi = x := ⟨_, rfl⟩
      have hxl : s.data.toList[i]? = some x := by rw [← hx]; exact Lib.data_getElem? s i hi
      have hxb : s.get! i = x := by
        show s.data[i]! = x
        rw [Array.getElem?_toList] at hxl
        rw [getElem!_def, hxl]
      have Hx := Lib.hid hxl
      by_cases h128 : x.toNat < 128
      · have hnx := fun ty => Lib.run_next_ascii_at (P := Tryz.prog) wr w'.heap.size s i ty HK.out hi (by rw [hx]; exact h128)
        rw [hx] at hnx
        obtain ⟨wi, hwi⟩ : ∃ wi, wr.iterAt w'.heap.size s (i + 1) = wi := ⟨_, rfl⟩
        rw [hwi] at hnx
        have HBI : Hid (Below w'.heap.size w' wi) := Lib.hid (by rw [← hwi]; exact Lib.below_iterAt HB.out (Nat.le_refl _) _ _)
        have HKI : Hid (wi.heap[w'.heap.size]? = some (.stringIter s (i + 1))) := Lib.hid (by rw [← hwi]; exact Lib.iterAt_heap _ _ _ _ _ HK.out)
        have MR := Lib.hid (fun w => Tryz.strings_IndexRune_ascii ⟨#[44, 32]⟩ (x.toNat : Int) w (by omega) (by omega))
        have hback : ((x.toNat : Int)).toNat.toUInt8 = x := by simp
        rw [hback] at MR
        have hcon := Lib.contains_iff_indexByte [44, 32] x
        obtain ⟨n, hn⟩ : ∃ n, Lib.indexByte [44, 32] x = n := ⟨_, rfl⟩
        have MR2 : Hid (∀ w, Calls Tryz.prog 116 #[.string ⟨#[44, 32]⟩, .int .i32 (x.toNat : Int)] w fun e w' => e = .returned (.int .i64 n) ∧ w' = w) := Lib.hid (fun w => by rw [← hn]; exact MR.out w)
        rw [hn] at hcon
        clear hxl hx hxb h128 hback MR hn hwi
        cases hin : [44, 32].contains x
        · rw [hin] at hcon
          have hlt : ¬ ((0 : Int) ≤ n) := of_decide_eq_false hcon.symm
          have HIN := Lib.hid hin
          clear hcon hin
          go_wp2_with fail
          refine (MR2.out _).mono ?_
          rintro e w2 ⟨rfl, rfl⟩
          go_wp2_with fail
          go_roundg g
          case measure => omega
          case rel => exact ⟨i + 1, by omega, HKI.out, HBI.out, HN.out.succ Hx.out HIN.out⟩
        · rw [hin] at hcon
          have hlt : ((0 : Int) ≤ n) := of_decide_eq_true hcon.symm
          have HIN := Lib.hid hin
          clear hcon hin
          go_wp2_with fail
          refine (MR2.out _).mono ?_
          rintro e w2 ⟨rfl, rfl⟩
          go_wp2_with fail
          go_ret
          exact ⟨by rw [Lib.indexAny_hit HN.out Hx.out HIN.out]; rfl, HBI.out⟩
      · have hnx := fun ty => Lib.run_next_any_at (P := Tryz.prog) wr w'.heap.size s i ty HK.out hi
        obtain ⟨d1, d2, d3, d4, d5⟩ := decode_high2 s i hi (by rw [hxb]; omega)
        obtain ⟨p, hp⟩ : ∃ p, Utf8.decode s i = p := ⟨_, rfl⟩
        rw [hp] at hnx d1 d2 d3 d4 d5
        obtain ⟨r, n⟩ := p
        simp only at hnx d1 d2 d3 d4 d5
        obtain ⟨wi, hwi⟩ : ∃ wi, wr.iterAt w'.heap.size s (i + n) = wi := ⟨_, rfl⟩
        rw [hwi] at hnx
        have HBI : Hid (Below w'.heap.size w' wi) := Lib.hid (by rw [← hwi]; exact Lib.below_iterAt HB.out (Nat.le_refl _) _ _)
        have HKI : Hid (wi.heap[w'.heap.size]? = some (.stringIter s (i + n))) := Lib.hid (by rw [← hwi]; exact Lib.iterAt_heap _ _ _ _ _ HK.out)
        have HSI : Hid (w'.heap.size < wi.heap.size) := Lib.hid (Array.getElem?_eq_some_iff.1 HKI.out).1
        have MR := Lib.hid (fun w => rune116 r d2 d1 w)
        have HNN := Lib.hid (noAny_run HN.out d5)
        clear hxl hx hxb h128 d1 d2 d5 hp hwi
        go_wp2_with fail
        refine (MR.out _).mono ?_
        rintro e w2 ⟨rfl, hb2⟩
        have HB2 : Hid (Below w'.heap.size w' w2) := Lib.hid (HBI.out.trans (hb2.mono HBI.out.size))
        have HK2 : Hid (w2.heap[w'.heap.size]? = some (.stringIter s (i + n))) := Lib.hid ((hb2.block _ HSI.out).trans HKI.out)
        clear hb2
        go_wp2_with fail
        go_roundg (s.size - (i + n))
        case measure => omega
        case rel => exact ⟨i + n, by omega, HK2.out, HB2.out, HNN.out⟩
theorem any82 (s : ByteArray) (hl : s.size < 4294967281) (w : World) : Calls Tryz.prog 82 #[.string s, .string ⟨#[44, 32]⟩] w fun e w' => e = .returned (.int .i64 (Lib.indexAny s.data.toList [44, 32])) ∧ Below w.heap.size w w' := by
  by_cases h : s.size ≤ 8
  · exact any82s s h w
  · refine (Tryz.strings_IndexAny_long (zero_of_info h171).1 s ⟨#[44, 32]⟩ w (by decide) (by omega) hl (by decide) (fun j b hb => ?_)).mono ?_
    · match j, hb with
      | 0, hb => cases hb; decide
      | 1, hb => cases hb; decide
      | j + 2, hb => simp at hb
    · rintro e w' ⟨rfl, rfl⟩
      exact ⟨rfl, ((Below.refl _ _).alloc (Nat.le_refl _) _).alloc (by simp) _⟩
end Go.Proofs.YtagiddbfhlokcaaGreatDoor.Ser
/- The other package's digits and isFloat: they answer as the plain texts do. Condition: the text's length. -/
namespace Go.Proofs.YtagiddbfhlokcaaGreatDoor
open Go.RowKit
set_option maxRecDepth 100000
theorem at_cons {l : List UInt8} {k : Nat} {c : UInt8} {t : List UInt8} (e : l.drop k = c :: t) : ∃ h : k < (bs l).size, (bs l)[k] = c ∧ (k : Int) < ((bs l).size : Int) ∧ l.drop (k + 1) = t ∧ k + 1 ≤ l.length := by
  have hk : k < l.length := by
    rcases Nat.lt_or_ge k l.length with h | h
    · exact h
    · rw [List.drop_of_length_le h] at e; cases e
  have h : k < (bs l).size := by rw [bs_size]; exact hk
  rw [List.drop_eq_getElem_cons hk] at e
  injection e with e1 e2
  exact ⟨h, by rw [bs_get]; exact e1, by omega, e2, hk⟩
theorem at_nil {l : List UInt8} {k : Nat} (hk : k ≤ l.length) (e : l.drop k = []) : ¬((k : Int) < ((bs l).size : Int)) ∧ k = (bs l).size := by
  have : (l.drop k).length = 0 := by rw [e]; rfl
  simp at this
  have h2 : (bs l).size = l.length := bs_size l
  omega
theorem isDig_true {c : UInt8} (h : PF.isDig c = true) : (48 : Int) ≤ (c.toNat : Int) ∧ (c.toNat : Int) ≤ 57 := by
  simp only [PF.isDig, Bool.and_eq_true, decide_eq_true_eq] at h
  omega
theorem isDig_false {c : UInt8} (h : PF.isDig c = false) : ¬(48 : Int) ≤ (c.toNat : Int) ∨ ((48 : Int) ≤ (c.toNat : Int) ∧ ¬(c.toNat : Int) ≤ 57) := by
  simp only [PF.isDig, Bool.and_eq_false_iff, decide_eq_false_iff_not] at h
  omega
def tw (l : List UInt8) (k : Nat) : Nat := ((l.drop k).takeWhile PF.isDig).length
theorem tw_yes {l : List UInt8} {k : Nat} {c : UInt8} {t : List UInt8} (e : l.drop k = c :: t) (h : PF.isDig c = true) : tw l k = tw l (k + 1) + 1 := by
  have h2 := (at_cons e).choose_spec.2.2.1
  unfold tw
  rw [h2, e, List.takeWhile_cons, if_pos h]
  rfl
theorem tw_no {l : List UInt8} {k : Nat} {c : UInt8} {t : List UInt8} (e : l.drop k = c :: t) (h : PF.isDig c = false) : tw l k = 0 := by
  unfold tw
  rw [e, List.takeWhile_cons, if_neg (by rw [h]; decide)]
  rfl
theorem tw_end {l : List UInt8} {k : Nat} (e : l.drop k = []) : tw l k = 0 := by unfold tw; rw [e]; rfl
theorem digits79 (l : List UInt8) (i : Nat) (hl : l.length ≤ 281474976710656) (hi : i ≤ l.length) (w : World) :
    Calls Tryz.prog 79 #[.string (bs l), .int .i64 (i : Int)] w fun e w' => e = .returned (.int .i64 ((i + tw l i : Nat) : Int)) ∧ w = w' := by
  obtain ⟨m, hm⟩ : ∃ m, i + tw l i = m := ⟨_, rfl⟩
  rw [hm]
  go_enter Tryz.func79, Tryz.ntmps79
  go_wp2
  go_loopw [1] (fun v wr => ∃ k : Nat, v = .int .i64 (k : Int) ∧ k ≤ l.length ∧ k + tw l k = m ∧ w = wr) (fun v _ => match v with | .int _ k => l.length - k.toNat | _ => 0)
  case atStart => exact ⟨i, rfl, hi, hm, rfl⟩
  case round =>
    obtain ⟨k, rfl, hk, hkk, rfl⟩ := hrel
    have HKK := Lib.hid hkk
    clear hkk
    rcases list_cases (l.drop k) with e | ⟨c, t, e⟩
    · have h1 := (at_nil hk e).1
      have h0 : Hid (k = m) := Lib.hid (by rw [← HKK.out, tw_end e]; rfl)
      clear e
      go_wp2_with fail
      go_ret
      exact ⟨by rw [← h0.out]; rfl, rfl⟩
    · obtain ⟨hlt, hg, hz, hd, hk1⟩ := at_cons e
      cases hc : PF.isDig c with
      | true =>
        obtain ⟨d1, d2⟩ := isDig_true hc
        have HK2 : Hid (k + 1 + tw l (k + 1) = m) := Lib.hid (by rw [← HKK.out, tw_yes e hc]; omega)
        clear e hc hd
        go_wp2_with fail
        go_roundw
        case rel => exact ⟨k + 1, rfl, hk1, HK2.out, trivial⟩
        case measure => simp; omega
      | false =>
        have h0 : Hid (k = m) := Lib.hid (by rw [← HKK.out, tw_no e hc]; rfl)
        rcases isDig_false hc with d1 | ⟨d1, d2⟩
        · clear e hc hd
          go_wp2_with fail
          go_ret
          exact ⟨by rw [← h0.out]; rfl, rfl⟩
        · clear e hc hd
          go_wp2_with fail
          go_ret
          exact ⟨by rw [← h0.out]; rfl, rfl⟩
theorem drop_tw (l : List UInt8) (k : Nat) : l.drop (k + tw l k) = (l.drop k).dropWhile PF.isDig := by
  unfold tw
  rw [← List.drop_drop]
  have key : ∀ u : List UInt8, u.drop (u.takeWhile PF.isDig).length = u.dropWhile PF.isDig := by
    intro u
    have h := List.takeWhile_append_dropWhile (p := PF.isDig) (l := u)
    calc u.drop (u.takeWhile PF.isDig).length = (u.takeWhile PF.isDig ++ u.dropWhile PF.isDig).drop (u.takeWhile PF.isDig).length := by rw [h]
      _ = _ := List.drop_left' rfl
  exact key _
theorem tw_le (l : List UInt8) (k : Nat) (hk : k ≤ l.length) : k + tw l k ≤ l.length := by
  unfold tw
  have := take_drop_len (l.drop k)
  simp at this
  omega
theorem tw_empty (l : List UInt8) (k : Nat) : ((l.drop k).takeWhile PF.isDig).isEmpty = decide (tw l k = 0) := by
  unfold tw
  cases (l.drop k).takeWhile PF.isDig <;> simp
/-- Where the sign ends. -/
def p0 (l : List UInt8) : Nat := if PF.isNeg l then 1 else 0
theorem p0_drop (l : List UInt8) : l.drop (p0 l) = PF.body l ∧ p0 l ≤ l.length := by
  by_cases hc : ∃ r, l = 45 :: r
  · obtain ⟨r, rfl⟩ := hc
    unfold p0
    rw [(PF.body_neg r).1, (PF.body_neg r).2, if_pos rfl]
    exact ⟨rfl, by simp⟩
  · have hb := PF.body_pos (l := l) (fun r e => hc ⟨r, e⟩)
    unfold p0
    rw [hb.1, hb.2, if_neg (by decide)]
    exact ⟨rfl, by omega⟩
theorem isNeg_head (l : List UInt8) : PF.isNeg l = headIs 45 l := by
  by_cases hc : ∃ r, l = 45 :: r
  · obtain ⟨r, rfl⟩ := hc; rfl
  · rw [(PF.body_pos (l := l) (fun r e => hc ⟨r, e⟩)).2, head_no (fun t e => hc ⟨t, e⟩)]
theorem head_yes {c : UInt8} {r : List UInt8} (h : headIs c r = true) : ∃ t, r = c :: t := by
  cases r with
  | nil => cases h
  | cons a t => exact ⟨t, by rw [of_decide_eq_true h]⟩
theorem tailM_no {r : List UInt8} (h : headIs 46 r = false) : PF.tailM r = PF.tailE r := by
  unfold PF.tailM
  split
  · cases h
  · rfl
theorem tailE_no {r : List UInt8} (h : isE r = false) : PF.tailE r = r.isEmpty := by
  cases r with
  | nil => rfl
  | cons c t =>
    unfold PF.tailE
    have : (decide (c = 101) || decide (c = 69)) = false := h
    simp only [this, Bool.false_and]
    rfl
theorem tailE_yes {r : List UInt8} (h : isE r = true) : ∃ c t, r = c :: t ∧ PF.tailE r = PF.okX t := by
  cases r with
  | nil => cases h
  | cons c t =>
    refine ⟨c, t, rfl, ?_⟩
    unfold PF.tailE
    have : (decide (c = 101) || decide (c = 69)) = true := h
    simp only [this, Bool.true_and]
/-- Behind the mantissa / behind all. -/
def AtM (l : List UInt8) (R : Bool) (w : World) (v : Value) (w' : World) : Prop := ∃ p : Nat, v = .int .i64 (p : Int) ∧ p ≤ l.length ∧ PF.tailE (l.drop p) = R ∧ w = w'
def AtS (l : List UInt8) (R : Bool) (w : World) (v : Value) (w' : World) : Prop := ∃ p : Nat, v = .int .i64 (p : Int) ∧ p ≤ l.length ∧ PF.okD (l.drop p) = R ∧ w = w'
def AtE (l : List UInt8) (R : Bool) (w : World) (v : Value) (w' : World) : Prop := ∃ p : Nat, v = .int .i64 (p : Int) ∧ p ≤ l.length ∧ (l.drop p).isEmpty = R ∧ w = w'
set_option maxHeartbeats 8000000 in
theorem isFloat53 (l : List UInt8) (hl : l.length ≤ 281474976710656) (w : World) :
    Calls Tryz.prog 53 #[.string (bs l)] w fun e w' => e = .returned (.bool (PF.decB l)) ∧ w = w' := by
  obtain ⟨R, hR⟩ : ∃ R, PF.decB l = R := ⟨_, rfl⟩
  have hdec : (!((PF.body l).takeWhile PF.isDig).isEmpty && PF.tailM ((PF.body l).dropWhile PF.isDig) && decide (l.length ≤ 400)) = R := by
    rw [← hR]
    unfold PF.decB
    rw [PF.okM_parts]
  rw [hR]
  obtain ⟨hp0, hp0l⟩ := p0_drop l
  rw [← hp0, ← drop_tw, tw_empty] at hdec
  have MD := Lib.hid (fun i hi => digits79 l i hl hi)
  have HNEG := Lib.hid (isNeg_head l)
  obtain ⟨q0, hq0⟩ : ∃ q, p0 l = q := ⟨_, rfl⟩
  have HQ0 : Hid ((if PF.isNeg l then 1 else 0) = q0) := Lib.hid hq0
  rw [hq0] at hdec hp0l
  have HDEC := Lib.hid hdec
  have HSZ := Lib.hid (bs_size l)
  clear hdec hR hp0 hq0
  go_enter Tryz.func53, Tryz.ntmps53
  obtain ⟨bn, hbn⟩ : ∃ b, PF.isNeg l = b := ⟨_, rfl⟩
  rw [hbn] at HQ0 HNEG
  clear hbn
  go_upto_region 2 with (fail)
  go_cut [14] from 5 to 14 (fun v w' => v = .bool bn ∧ w = w')
  case first =>
    rcases list_cases l with e | ⟨c, t, e⟩
    · have h0 : (bs l).size = 0 := by rw [bs_size, e]; rfl
      have h0z : ¬((0 : Int) < ((bs l).size : Int)) := by omega
      have hq : bn = false := by rw [HNEG.out, e]; rfl
      subst hq
      clear e h0
      go_wp2_with fail
      go_meet
      case rel => exact ⟨rfl, rfl⟩
    · obtain ⟨hlt, hg, hem, h0i, h1i, htl⟩ := bs_head e
      by_cases h45 : c = 45
      · have c45 : ((c.toNat : Int) == 45) = true := byte_eq c 45 (by decide) h45
        have hq : bn = true := by rw [HNEG.out, e, h45]; rfl
        subst hq
        clear e htl h45
        go_wp2_with fail
        go_meet
        case rel => exact ⟨rfl, rfl⟩
      · have c45 : ((c.toNat : Int) == 45) = false := byte_ne c 45 (by decide) h45
        have hq : bn = false := by rw [HNEG.out, e]; simp [headIs, h45]
        subst hq
        clear e htl h45
        go_wp2_with fail
        go_meet
        case rel => exact ⟨rfl, rfl⟩
  case rest =>
   obtain ⟨rfl, rfl⟩ := hcut
   go_upto_if 14 with (fail)
   go_cut [3] from 15 to 16 (fun v w' => v = .int .i64 (q0 : Int) ∧ w = w')
   case first =>
    cases bn with
    | true =>
      have hq : q0 = 1 := HQ0.out.symm
      subst hq
      go_wp2_with fail
      go_meet
      case rel => exact ⟨rfl, rfl⟩
    | false =>
      have hq : q0 = 0 := HQ0.out.symm
      subst hq
      go_wp2_with fail
      go_meet
      case rel => exact ⟨rfl, rfl⟩
   case rest =>
    obtain ⟨rfl, rfl⟩ := hcut
    have htl := tw_le l q0 hp0l
    obtain ⟨n, hn⟩ : ∃ n, tw l q0 = n := ⟨_, rfl⟩
    have M := Lib.hid (MD.out q0 hp0l w)
    rw [hn] at htl HDEC M
    obtain ⟨q, hq⟩ : ∃ q, q0 + n = q := ⟨_, rfl⟩
    rw [hq] at htl HDEC M
    go_wp2_with fail
    refine M.out.mono ?_
    rintro e w' ⟨rfl, rfl⟩
    by_cases hq1 : q = q0
    · have hqz : ((q : Int) == (q0 : Int)) = true := by simp; omega
      obtain rfl : false = R := by rw [← HDEC.out]; rw [show n = 0 by omega]; rfl
      clear hq1 hq
      go_wp2_with fail
      go_ret
      exact ⟨rfl, rfl⟩
    · have hqz : ((q : Int) == (q0 : Int)) = false := by rw [beq_eq_false_iff_ne]; omega
      by_cases h400 : 400 < l.length
      · have h400z : (400 : Int) < ((bs l).size : Int) := by have := HSZ.out; omega
        obtain rfl : false = R := by rw [← HDEC.out]; simp; omega
        clear hq1 hq
        go_wp2_with fail
        go_ret
        exact ⟨rfl, rfl⟩
      · have h400z : ¬((400 : Int) < ((bs l).size : Int)) := by have := HSZ.out; omega
        have hm : PF.tailM (l.drop q) = R := by
          rw [← HDEC.out]
          have : ¬(n = 0) := by omega
          have h4 : l.length ≤ 400 := by omega
          simp [this, h4]
        have HM := Lib.hid hm
        clear HDEC hm hq1 hq hn
        obtain ⟨b46, hb46⟩ : ∃ b, headIs 46 (l.drop q) = b := ⟨_, rfl⟩
        have H46 := Lib.hid hb46
        clear hb46
        go_upto_region 8 with (fail)
        go_cut [38] from 29 to 38 (fun v w' => v = .bool b46 ∧ w = w')
        case first =>
          have h46 := H46.out
          rcases list_cases (l.drop q) with e | ⟨c, t, e⟩
          · have h1 := (at_nil htl e).1
            rw [e] at h46
            obtain rfl : false = b46 := h46
            clear e
            go_wp2_with fail
            go_meet
            case rel => exact ⟨rfl, rfl⟩
          · obtain ⟨hlt, hg, hz, hd, hk1⟩ := at_cons e
            rw [e] at h46
            clear e hd
            by_cases hc : c = 46
            · have c46 : ((c.toNat : Int) == 46) = true := byte_eq c 46 (by decide) hc
              obtain rfl : true = b46 := by rw [← h46, hc]; rfl
              clear h46 hc
              go_wp2_with fail
              go_meet
              case rel => exact ⟨rfl, rfl⟩
            · have c46 : ((c.toNat : Int) == 46) = false := byte_ne c 46 (by decide) hc
              obtain rfl : false = b46 := by rw [← h46]; simp [headIs, hc]
              clear h46 hc
              go_wp2_with fail
              go_meet
              case rel => exact ⟨rfl, rfl⟩
        case rest =>
         obtain ⟨rfl, rfl⟩ := hcut
         go_upto_if 38 with (fail)
         go_cut [3, 4] from 39 to 47 (fun v z w' => (∃ y : Int, z = .int .i64 y) ∧ AtM l R w v w')
         case first =>
          cases b46 with
          | true =>
            obtain ⟨t, e⟩ := head_yes H46.out
            obtain ⟨hlt, hg, hz, hd, hk1⟩ := at_cons e
            have hm := HM.out
            rw [e] at hm
            have hm2 : (!(t.takeWhile PF.isDig).isEmpty && PF.tailE (t.dropWhile PF.isDig)) = R := hm
            rw [← hd, ← drop_tw, tw_empty] at hm2
            have htl2 := tw_le l (q + 1) hk1
            have M := Lib.hid (MD.out (q + 1) hk1 w)
            obtain ⟨n2, hn2⟩ : ∃ n, tw l (q + 1) = n := ⟨_, rfl⟩
            rw [hn2] at hm2 htl2 M
            obtain ⟨q2, hq2⟩ : ∃ q2, q + 1 + n2 = q2 := ⟨_, rfl⟩
            rw [hq2] at hm2 htl2 M
            have HM2 := Lib.hid hm2
            have HQ2 := Lib.hid hq2
            clear hm hm2 hn2 e hd hq2
            simp only [Int.natCast_add, Int.cast_ofNat_Int] at M
            go_wp2_with fail
            refine M.out.mono ?_
            rintro e w' ⟨rfl, rfl⟩
            have hq2 := HQ2.out
            by_cases hnz : n2 = 0
            · have hqz : ((q2 : Int) == (q : Int) + 1) = true := by simp; omega
              obtain rfl : false = R := by rw [← HM2.out, hnz]; rfl
              clear hnz hq2
              go_wp2_with fail
              go_ret
              exact ⟨rfl, rfl⟩
            · have hqz : ((q2 : Int) == (q : Int) + 1) = false := by rw [beq_eq_false_iff_ne]; omega
              have HM3 : Hid (PF.tailE (l.drop q2) = R) := Lib.hid (by rw [← HM2.out]; simp [hnz])
              clear hnz hq2
              go_wp2_with fail
              go_meet
              case rel => exact ⟨⟨_, rfl⟩, q2, rfl, htl2, HM3.out, rfl⟩
          | false =>
            have HM2 : Hid (PF.tailE (l.drop q) = R) := Lib.hid (by rw [← HM.out, tailM_no H46.out])
            go_wp2_with fail
            go_meet
            case rel => exact ⟨⟨_, rfl⟩, q, rfl, htl, HM2.out, rfl⟩
         case rest =>
          clear HM H46
          obtain ⟨⟨y, rfl⟩, p, rfl, hp, hr, rfl⟩ := hcut
          have HR := Lib.hid hr
          obtain ⟨bE, hbE⟩ : ∃ b, isE (l.drop p) = b := ⟨_, rfl⟩
          have HBE := Lib.hid hbE
          clear hr hbE
          go_upto_region 13 with (fail)
          go_cut [63] from 48 to 63 (fun v w' => v = .bool bE ∧ w = w')
          case first =>
            have hbe := HBE.out
            rcases list_cases (l.drop p) with e | ⟨c, t, e⟩
            · have h1 := (at_nil hp e).1
              rw [e] at hbe
              obtain rfl : false = bE := hbe
              clear e
              go_wp2_with fail
              go_meet
              case rel => exact ⟨rfl, rfl⟩
            · obtain ⟨hlt, hg, hz, hd, hk1⟩ := at_cons e
              rw [e] at hbe
              clear e hd
              by_cases hc : c = 101
              · have c1 : ((c.toNat : Int) == 101) = true := byte_eq c 101 (by decide) hc
                obtain rfl : true = bE := by rw [← hbe, hc]; rfl
                clear hbe hc
                go_wp2_with fail
                go_meet
                case rel => exact ⟨rfl, rfl⟩
              · have c1 : ((c.toNat : Int) == 101) = false := byte_ne c 101 (by decide) hc
                by_cases hc2 : c = 69
                · have c2 : ((c.toNat : Int) == 69) = true := byte_eq c 69 (by decide) hc2
                  obtain rfl : true = bE := by rw [← hbe, hc2]; rfl
                  clear hbe hc hc2
                  go_wp2_with fail
                  go_meet
                  case rel => exact ⟨rfl, rfl⟩
                · have c2 : ((c.toNat : Int) == 69) = false := byte_ne c 69 (by decide) hc2
                  obtain rfl : false = bE := by rw [← hbe]; simp [isE, hc, hc2]
                  clear hbe hc hc2
                  go_wp2_with fail
                  go_meet
                  case rel => exact ⟨rfl, rfl⟩
          case rest =>
           obtain ⟨rfl, rfl⟩ := hcut
           go_upto_if 63 with (fail)
           go_cut [3, 4] from 64 to 90 (fun v z w' => (∃ y : Int, z = .int .i64 y) ∧ AtE l R w v w')
           case first =>
            cases bE with
            | false =>
              have HE2 : Hid ((l.drop p).isEmpty = R) := Lib.hid (by rw [← HR.out, tailE_no HBE.out])
              go_wp2_with fail
              go_meet
              case rel => exact ⟨⟨_, rfl⟩, p, rfl, hp, HE2.out, rfl⟩
            | true =>
              obtain ⟨c, t, e, hte⟩ := tailE_yes HBE.out
              obtain ⟨hlt, hg, hz, hd, hk1⟩ := at_cons e
              rw [hte, ← hd] at HR
              obtain ⟨bS, hbS⟩ : ∃ b, isS (l.drop (p + 1)) = b := ⟨_, rfl⟩
              have HBS := Lib.hid hbS
              clear e hte hd hbS
              obtain ⟨p1, hp1⟩ : ∃ p1, p + 1 = p1 := ⟨_, rfl⟩
              have hp1z : (p : Int) + 1 = (p1 : Int) := by omega
              rw [hp1] at HR HBS hk1
              have hp1s : (p1 : Int) ≤ 281474976710656 := by omega
              clear hp1
              go_upto_region 15 with (fail)
              go_cut [81] from 66 to 81 (fun v w' => v = .bool bS ∧ w = w')
              case first =>
                have hbs := HBS.out
                rcases list_cases (l.drop p1) with e | ⟨c, t, e⟩
                · have h1 := (at_nil hk1 e).1
                  rw [e] at hbs
                  obtain rfl : false = bS := hbs
                  clear e
                  go_wp2_with fail
                  go_meet
                  case rel => exact ⟨rfl, rfl⟩
                · obtain ⟨hlt, hg, hz, hd, hk1⟩ := at_cons e
                  rw [e] at hbs
                  clear e hd
                  by_cases hc : c = 43
                  · have c1 : ((c.toNat : Int) == 43) = true := byte_eq c 43 (by decide) hc
                    obtain rfl : true = bS := by rw [← hbs, hc]; rfl
                    clear hbs hc
                    go_wp2_with fail
                    go_meet
                    case rel => exact ⟨rfl, rfl⟩
                  · have c1 : ((c.toNat : Int) == 43) = false := byte_ne c 43 (by decide) hc
                    by_cases hc2 : c = 45
                    · have c2 : ((c.toNat : Int) == 45) = true := byte_eq c 45 (by decide) hc2
                      obtain rfl : true = bS := by rw [← hbs, hc2]; rfl
                      clear hbs hc hc2
                      go_wp2_with fail
                      go_meet
                      case rel => exact ⟨rfl, rfl⟩
                    · have c2 : ((c.toNat : Int) == 45) = false := byte_ne c 45 (by decide) hc2
                      obtain rfl : false = bS := by rw [← hbs]; simp [isS, hc, hc2]
                      clear hbs hc hc2
                      go_wp2_with fail
                      go_meet
                      case rel => exact ⟨rfl, rfl⟩
              case rest =>
                obtain ⟨rfl, rfl⟩ := hcut
                go_upto_if 81 with (fail)
                go_cut [3] from 82 to 83 (fun v w' => AtS l R w v w')
                case first =>
                  cases bS with
                  | false =>
                    have HS2 : Hid (PF.okD (l.drop p1) = R) := Lib.hid (by rw [← HR.out, okX_strip, strip_no HBS.out])
                    go_wp2_with fail
                    go_meet
                    case rel => exact ⟨p1, rfl, hk1, HS2.out, rfl⟩
                  | true =>
                    obtain ⟨d, u, e, hst⟩ := strip_yes HBS.out
                    obtain ⟨hlt, hg, hz, hd, hk1⟩ := at_cons e
                    have HS2 : Hid (PF.okD (l.drop (p1 + 1)) = R) := Lib.hid (by rw [← HR.out, okX_strip, hst, hd])
                    clear e hd hst
                    go_wp2_with fail
                    go_meet
                    case rel => exact ⟨p1 + 1, rfl, hk1, HS2.out, rfl⟩
                case rest =>
                  obtain ⟨p2, rfl, hp2, hok, rfl⟩ := hcut
                  rw [okD_parts, ← drop_tw, tw_empty] at hok
                  have htl2 := tw_le l p2 hp2
                  have M := Lib.hid (MD.out p2 hp2 w)
                  obtain ⟨n2, hn2⟩ : ∃ n, tw l p2 = n := ⟨_, rfl⟩
                  rw [hn2] at hok htl2 M
                  obtain ⟨q2, hq2⟩ : ∃ q2, p2 + n2 = q2 := ⟨_, rfl⟩
                  rw [hq2] at hok htl2 M
                  have HOK := Lib.hid hok
                  clear hok hn2
                  go_wp2_with fail
                  refine M.out.mono ?_
                  rintro e w' ⟨rfl, rfl⟩
                  by_cases hnz : n2 = 0
                  · have hqz : ((q2 : Int) == (p2 : Int)) = true := by simp; omega
                    obtain rfl : false = R := by rw [← HOK.out, hnz]; rfl
                    clear hnz hq2
                    go_wp2_with fail
                    go_ret
                    exact ⟨rfl, rfl⟩
                  · have hqz : ((q2 : Int) == (p2 : Int)) = false := by rw [beq_eq_false_iff_ne]; omega
                    have HM3 : Hid ((l.drop q2).isEmpty = R) := Lib.hid (by rw [← HOK.out]; simp [hnz])
                    clear hnz hq2
                    go_wp2_with fail
                    go_meet
                    case rel => exact ⟨⟨_, rfl⟩, q2, rfl, htl2, HM3.out, rfl⟩
           case rest =>
            obtain ⟨⟨y, rfl⟩, p, rfl, hp, hr, rfl⟩ := hcut
            rcases list_cases (l.drop p) with e | ⟨c, t, e⟩
            · have h2 := (at_nil hp e).2
              obtain rfl : true = R := by rw [← hr, e]; rfl
              have hz : ((p : Int) == ((bs l).size : Int)) = true := by simp; omega
              clear e hr h2
              go_wp2_with fail
              go_ret
              exact ⟨rfl, rfl⟩
            · obtain ⟨hlt, hg, hz, hd, hk1⟩ := at_cons e
              obtain rfl : false = R := by rw [← hr, e]; rfl
              have hz : ((p : Int) == ((bs l).size : Int)) = false := by rw [beq_eq_false_iff_ne]; omega
              clear e hd hr
              go_wp2_with fail
              go_ret
              exact ⟨rfl, rfl⟩
end Go.Proofs.YtagiddbfhlokcaaGreatDoor
