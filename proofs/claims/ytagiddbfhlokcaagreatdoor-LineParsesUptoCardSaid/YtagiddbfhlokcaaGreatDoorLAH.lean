/- Several texts of this proof, laid together. Conditions: as each says. -/
import Derived.Test.YtagiddbfhlokcaaGreatDoorLAE
import Derived.Laws.RangeAny
import Derived.Laws.Runes
import Derived.Lib.DecodeN
import Derived.Lib.IndexAny
import Derived.WalkMore
import Derived.Lib.OthersKept
import Derived.Test.YtagiddbfhlokcaaGreatDoorLAF
import Derived.Test.YtagiddbfhlokcaaGreatDoorLAG
import Derived.Deep.Cut
import Derived.Deep.CutRange
import Derived.BigRegion
/- strings.IndexAny at a comma and a blank, whatever the bytes; a value's text cut off a line. Condition: the text's length. -/
namespace Go.Proofs.YtagiddbfhlokcaaGreatDoor.Ser
open Go.RowKit Go.Sort
set_option maxRecDepth 100000
theorem get_bang (l : List UInt8) (i : Nat) (h : i < l.length) : (bs l).get! i = l[i] := by
  show (bs l).data[i]! = _
  rw [getElem!_pos _ _ (by simpa [bs] using h)]
  simp [bs]
theorem dec_high (n b0 b1 b2 b3 : Nat) (hn : 1 ≤ n) (h0 : 128 ≤ b0) : (128 ≤ (Lib.decodeN n b0 b1 b2 b3).1 ∧ (Utf8.valid ((Lib.decodeN n b0 b1 b2 b3).1 : Int) = true) ∧ 1 ≤ (Lib.decodeN n b0 b1 b2 b3).2 ∧ (Lib.decodeN n b0 b1 b2 b3).2 ≤ n ∧
    (2 ≤ (Lib.decodeN n b0 b1 b2 b3).2 → 128 ≤ b1) ∧ (3 ≤ (Lib.decodeN n b0 b1 b2 b3).2 → 128 ≤ b2) ∧ (4 ≤ (Lib.decodeN n b0 b1 b2 b3).2 → 128 ≤ b3) ∧ (Lib.decodeN n b0 b1 b2 b3).2 ≤ 4) := by
  unfold Lib.decodeN Utf8.valid
  repeat' split
  all_goals simp
  all_goals omega
theorem decode_high2 (s : ByteArray) (i : Nat) (hi : i < s.size) (h : 128 ≤ (s.get! i).toNat) : 128 ≤ (Utf8.decode s i).1 ∧ Utf8.valid ((Utf8.decode s i).1 : Int) = true ∧ 1 ≤ (Utf8.decode s i).2 ∧ i + (Utf8.decode s i).2 ≤ s.size ∧ ∀ j, i ≤ j → j < i + (Utf8.decode s i).2 → 128 ≤ (s.get! j).toNat := by
  rw [Lib.decode_at]
  obtain ⟨h1, h2, h3, h4, h5, h6, h7, h8⟩ := dec_high (s.size - i) (s.get! i).toNat (s.get! (i + 1)).toNat (s.get! (i + 2)).toNat (s.get! (i + 3)).toNat (by omega) h
  refine ⟨h1, h2, h3, by omega, fun j hj1 hj2 => ?_⟩
  obtain ⟨k, rfl⟩ : ∃ k, j = i + k := ⟨j - i, by omega⟩
  match k, hj2 with
  | 0, _ => exact h
  | 1, hj2 => exact h5 (by omega)
  | 2, hj2 => exact h6 (by omega)
  | 3, hj2 => exact h7 (by omega)
  | k + 4, hj2 => omega
set_option maxHeartbeats 2000000 in
theorem rune116 (r : Nat) (hv : Utf8.valid (r : Int) = true) (h128 : 128 ≤ r) (w : World) : Calls Tryz.prog 116 #[.string ⟨#[44, 32]⟩, .int .i32 (r : Int)] w fun e w' => e = .returned (.int .i64 (-1)) ∧ Below w.heap.size w w' := by
  have h1 : ¬ (r : Int) < 128 := by omega
  have h0 : (0 : Int) ≤ (r : Int) := by omega
  have hval : Lib.validRune (r : Int) = true := by
    unfold Utf8.valid at hv
    unfold Lib.validRune
    simp at hv ⊢
    omega
  by_cases h : r = 65533
  · have hr : ((r : Int) == 65533) = true := by rw [h]; rfl
    clear h hv hval h128
    go_enter Tryz.func116, Tryz.ntmps116
    go_wp2_with fail
    go_loopg [5, 6] 2 (fun g _ _ wx => ∃ i : Nat, i + g = 2 ∧ wx = w.iter ⟨#[44, 32]⟩ i)
    case atStart => exact ⟨0, rfl, rfl⟩
    case round =>
      obtain ⟨i, hig, rfl⟩ := hrel
      match i, hig with
      | 0, hig =>
        obtain rfl : gk = 2 := by omega
        have hnx := fun ty => run_next_ascii (P := Tryz.prog) w ⟨#[44, 32]⟩ 0 ty (by decide) (by decide)
        go_wp2_with fail
        go_roundg 1
        case measure => omega
        case rel => exact ⟨1, rfl, rfl⟩
      | 1, hig =>
        obtain rfl : gk = 1 := by omega
        have hnx := fun ty => run_next_ascii (P := Tryz.prog) w ⟨#[44, 32]⟩ 1 ty (by decide) (by decide)
        go_wp2_with fail
        go_roundg 0
        case measure => omega
        case rel => exact ⟨2, rfl, rfl⟩
      | i + 2, hig =>
        obtain rfl : i = 0 := by omega
        have hnx := fun ty => run_next_end (P := Tryz.prog) w ⟨#[44, 32]⟩ 2 ty (by decide)
        go_wp2_with fail
        go_ret
        exact ⟨rfl, (Below.refl _ _).alloc (Nat.le_refl _) _⟩
  · have hr : ((r : Int) == 65533) = false := by rw [beq_eq_false_iff_ne]; omega
    obtain ⟨e1, e2, e3⟩ := encode_facts (r : Int) hv (by omega)
    obtain ⟨rs, hrs⟩ : ∃ rs, Utf8.encode (r : Int) = rs := ⟨_, rfl⟩
    have hconv : ∀ w, (convert 21 9 (.int .i32 (r : Int))).run Tryz.prog w = .ok (.string rs) w := fun w => by
      rw [← hrs]; exact run_convert_int_string w 21 9 .i32 (r : Int) (by rw [Tryz.underlying21]; rfl) Tryz.underlying9
    rw [hrs] at e1 e2 e3
    have MV := Lib.hid (Tryz.utf8_ValidRune (r : Int) w)
    rw [hval] at MV
    clear h h128 hv hval hrs
    obtain ⟨n, hn⟩ : ∃ n, rs.size = n + 1 := ⟨rs.size - 1, by omega⟩
    have hi0 : (rs.size : Int) - 1 = (n : Int) := by omega
    have hn1 : 1 ≤ n := by omega
    have hn3 : n ≤ 3 := by omega
    by_cases h2 : n = 1
    · subst h2
      have hlt : 1 < rs.size := by omega
      obtain ⟨c, hc⟩ : ∃ c, rs[1] = c := ⟨_, rfl⟩
      have hc128 : 128 ≤ c.toNat := by
        have := e3 (by omega)
        simp only [hn] at this
        rw [← hc]
        exact this
      have hne : ((((⟨#[44, 32]⟩ : ByteArray)[1]'(by decide)).toNat : Int) != (c.toNat : Int)) = true := by
        have : (((⟨#[44, 32]⟩ : ByteArray)[1]'(by decide)).toNat : Int) = 32 := by decide
        rw [this]; simp; omega
      have MI : ∀ w, Calls Tryz.prog 70 #[.string ByteArray.empty, .int .u8 (c.toNat : Int)] w fun e w' => e = .returned (.int .i64 (-1)) ∧ w' = w := fun w => Tryz.strings_IndexByte ⟨#[]⟩ (c.toNat : Int) w
      have M70 := Lib.hid MI
      have hw2 : IntKind.i64.wrap 2 = 2 := by kernel_rfl
      have hsl : ByteArray.extract ⟨#[44, 32]⟩ 2 2 = ⟨#[]⟩ := by decide
      clear e1 e2 e3 hc128 MI
      go_enter Tryz.func116, Tryz.ntmps116
      go_wp2_with fail
      refine MV.out.mono ?_
      rintro e w' ⟨rfl, rfl⟩
      go_wp2_with fail
      go_step3
      go_wp2_with fail
      go_loopw [9] (fun v wr => v = .int .i64 1 ∧ w' = wr) (fun _ _ => 0)
      case atStart => exact ⟨rfl, rfl⟩
      case round =>
        obtain ⟨rfl, rfl⟩ := hrel
        go_wp2_with fail
        go_step3
        go_wp2_with fail
        go_quiet (fail)
        go_wp2_with fail
        have MQ : Hid (∀ n, Calls Tryz.prog 70 #[.string ByteArray.empty, .int .u8 (c.toNat : Int)] (w'.drewN (nq + n)) fun e w2 => e = .returned (.int .i64 (-1)) ∧ ∃ m, w2 = w'.drewN (nq + m)) := Lib.hid fun n => (M70.out _).mono fun e w2 ⟨h1, h2⟩ => ⟨h1, n, h2⟩
        go_quiet ((go_at_call 70; with_reducible exact MQ.out _))
        go_wp2_with fail
        simp (config := { zetaDelta := true }) only [Exit.noGoto, Exit.inBlock, Exit.then]
        go_ret
        exact ⟨rfl, below_drewN (Below.refl _ _) _⟩
    · have hge : (2 : Int) ≤ (n : Int) := by omega
      clear e1 e2 e3
      go_enter Tryz.func116, Tryz.ntmps116
      go_wp2_with fail
      refine MV.out.mono ?_
      rintro e w' ⟨rfl, rfl⟩
      go_wp2_with fail
      go_step3
      go_wp2_with fail
      go_loopw [9] (fun v wr => v = .int .i64 (n : Int) ∧ w' = wr) (fun _ _ => 0)
      case atStart => exact ⟨rfl, rfl⟩
      case round =>
        obtain ⟨rfl, rfl⟩ := hrel
        have hge2 : ¬ (n : Int) < 2 := by omega
        go_wp2_with fail
        go_ret
        exact ⟨rfl, Below.refl _ _⟩
theorem h171 : (Tryz.prog.info? 171).map (fun i => (i.zero, i.size)) = some (some (.agg (Array.replicate 256 (.bool false))), 256) := by kernel_rfl
theorem sep_contains (c : UInt8) : [44, 32].contains c = !nsep c := by
  unfold nsep
  rw [Bool.eq_iff_iff]
  simp
theorem high_nsep {c : UInt8} (h : 128 ≤ c.toNat) : nsep c = true := by
  unfold nsep
  simp
  constructor <;> (rintro rfl; simp at h)
theorem any_tw : ∀ l : List UInt8, (Lib.indexAny l [44, 32] = -1 ∧ l.takeWhile nsep = l) ∨ (Lib.indexAny l [44, 32] = ((l.takeWhile nsep).length : Int))
  | [] => .inl ⟨rfl, rfl⟩
  | c :: l => by
    cases h : nsep c with
    | true =>
      have hc : [44, 32].contains c = false := by rw [sep_contains, h]; rfl
      rcases any_tw l with ⟨h1, h2⟩ | h1
      · left
        refine ⟨?_, by rw [List.takeWhile_cons, if_pos h, h2]⟩
        unfold Lib.indexAny
        rw [hc, h1]; rfl
      · right
        unfold Lib.indexAny
        rw [hc, List.takeWhile_cons, if_pos h, h1]
        have : (((l.takeWhile nsep).length : Int) == -1) = false := by rw [beq_eq_false_iff_ne]; omega
        rw [this]
        simp
    | false =>
      right
      have hc : [44, 32].contains c = true := by rw [sep_contains, h]; rfl
      unfold Lib.indexAny
      rw [hc, List.takeWhile_cons, h]
      rfl
theorem noAny_run {s : ByteArray} {i n : Nat} (h : Lib.NoAny s.data.toList [44, 32] i) (hd : ∀ j, i ≤ j → j < i + n → 128 ≤ (s.get! j).toNat) : Lib.NoAny s.data.toList [44, 32] (i + n) := by
  intro j b hj hb
  by_cases h1 : j < i
  · exact h j b h1 hb
  · have h2 := hd j (by omega) hj
    have h3 : s.get! j = b := by
      show s.data[j]! = b
      rw [Array.getElem?_toList] at hb
      rw [getElem!_def, hb]
    rw [h3] at h2
    rw [sep_contains, high_nsep h2]; rfl
set_option maxHeartbeats 2000000 in
theorem any82s (s : ByteArray) (hl : s.size ≤ 8) (w : World) : Calls Tryz.prog 82 #[.string s, .string ⟨#[44, 32]⟩] w fun e w' => e = .returned (.int .i64 (Lib.indexAny s.data.toList [44, 32])) ∧ Below w.heap.size w w' := by
  have h8 : decide ((8 : Int) < (s.size : Int)) = false := decide_eq_false (by omega)
  have h8n : ¬ (8 : Int) < (s.size : Int) := by omega
  have M117 : Hid (∀ w, Calls Tryz.prog 117 #[.int .i64 (s.size : Int)] w fun e w' => e = .returned (.bool (decide ((8 : Int) < (s.size : Int)))) ∧ w' = w) := Lib.hid fun w => Tryz.strings_shouldUseASCIISet _ w
  rw [h8] at M117
  go_enter Tryz.func82, Tryz.ntmps82
  go_wp2_with fail
  refine (M117.out _).mono ?_
  rintro e w' ⟨rfl, rfl⟩
  go_wp2_with fail
  go_loopg [9, 10] s.size (fun g _ _ wx => ∃ i : Nat, i + g = s.size ∧ wx.heap[w'.heap.size]? = some (.stringIter s i) ∧ Below w'.heap.size w' wx ∧ Lib.NoAny s.data.toList [44, 32] i)
  case atStart => exact ⟨0, by omega, World.iter_heap _ _ _, (Below.refl _ _).alloc (Nat.le_refl _) _, Lib.NoAny.zero _ _⟩
  case round =>
    obtain ⟨i, hig, hk, hb, hno⟩ := hrel
    have HN := Lib.hid hno
    have HB := Lib.hid hb
    have HK := Lib.hid hk
    clear hno hb hk
    cases gk with
    | zero =>
      obtain rfl : i = s.size := by omega
      have hnx := fun ty => Lib.run_next_end_at (P := Tryz.prog) wr w'.heap.size s s.size ty HK.out (by omega)
      go_wp2_with fail
      go_ret
      exact ⟨by rw [Lib.indexAny_none (by rw [← Lib.size_eq]; exact HN.out)]; rfl, HB.out⟩
    | succ g =>
      have hi : i < s.size := by omega
      obtain ⟨x, hx⟩ : ∃ x : UInt8, s[i]'hi = x := ⟨_, rfl⟩
      have hxl : s.data.toList[i]? = some x := by rw [← hx]; exact Lib.data_getElem? s i hi
      have hxb : s.get! i = x := by
        show s.data[i]! = x
        rw [Array.getElem?_toList] at hxl
        rw [getElem!_def, hxl]
      have Hx := Lib.hid hxl
      by_cases h128 : x.toNat < 128
      · have hnx := fun ty => Lib.run_next_ascii_at (P := Tryz.prog) wr w'.heap.size s i ty HK.out hi (by rw [hx]; exact h128)
        rw [hx] at hnx
        obtain ⟨wi, hwi⟩ : ∃ wi, wr.iterAt w'.heap.size s (i + 1) = wi := ⟨_, rfl⟩
        rw [hwi] at hnx
        have HBI : Hid (Below w'.heap.size w' wi) := Lib.hid (by rw [← hwi]; exact Lib.below_iterAt HB.out (Nat.le_refl _) _ _)
        have HKI : Hid (wi.heap[w'.heap.size]? = some (.stringIter s (i + 1))) := Lib.hid (by rw [← hwi]; exact Lib.iterAt_heap _ _ _ _ _ HK.out)
        have MR := Lib.hid (fun w => Tryz.strings_IndexRune_ascii ⟨#[44, 32]⟩ (x.toNat : Int) w (by omega) (by omega))
        have hback : ((x.toNat : Int)).toNat.toUInt8 = x := by simp
        rw [hback] at MR
        have hcon := Lib.contains_iff_indexByte [44, 32] x
        obtain ⟨n, hn⟩ : ∃ n, Lib.indexByte [44, 32] x = n := ⟨_, rfl⟩
        have MR2 : Hid (∀ w, Calls Tryz.prog 116 #[.string ⟨#[44, 32]⟩, .int .i32 (x.toNat : Int)] w fun e w' => e = .returned (.int .i64 n) ∧ w' = w) := Lib.hid (fun w => by rw [← hn]; exact MR.out w)
        rw [hn] at hcon
        clear hxl hx hxb h128 hback MR hn hwi
        cases hin : [44, 32].contains x
        · rw [hin] at hcon
          have hlt : ¬ ((0 : Int) ≤ n) := of_decide_eq_false hcon.symm
          have HIN := Lib.hid hin
          clear hcon hin
          go_wp2_with fail
          refine (MR2.out _).mono ?_
          rintro e w2 ⟨rfl, rfl⟩
          go_wp2_with fail
          go_roundg g
          case measure => omega
          case rel => exact ⟨i + 1, by omega, HKI.out, HBI.out, HN.out.succ Hx.out HIN.out⟩
        · rw [hin] at hcon
          have hlt : ((0 : Int) ≤ n) := of_decide_eq_true hcon.symm
          have HIN := Lib.hid hin
          clear hcon hin
          go_wp2_with fail
          refine (MR2.out _).mono ?_
          rintro e w2 ⟨rfl, rfl⟩
          go_wp2_with fail
          go_ret
          exact ⟨by rw [Lib.indexAny_hit HN.out Hx.out HIN.out]; rfl, HBI.out⟩
      · have hnx := fun ty => Lib.run_next_any_at (P := Tryz.prog) wr w'.heap.size s i ty HK.out hi
        obtain ⟨d1, d2, d3, d4, d5⟩ := decode_high2 s i hi (by rw [hxb]; omega)
        obtain ⟨p, hp⟩ : ∃ p, Utf8.decode s i = p := ⟨_, rfl⟩
        rw [hp] at hnx d1 d2 d3 d4 d5
        obtain ⟨r, n⟩ := p
        simp only at hnx d1 d2 d3 d4 d5
        obtain ⟨wi, hwi⟩ : ∃ wi, wr.iterAt w'.heap.size s (i + n) = wi := ⟨_, rfl⟩
        rw [hwi] at hnx
        have HBI : Hid (Below w'.heap.size w' wi) := Lib.hid (by rw [← hwi]; exact Lib.below_iterAt HB.out (Nat.le_refl _) _ _)
        have HKI : Hid (wi.heap[w'.heap.size]? = some (.stringIter s (i + n))) := Lib.hid (by rw [← hwi]; exact Lib.iterAt_heap _ _ _ _ _ HK.out)
        have HSI : Hid (w'.heap.size < wi.heap.size) := Lib.hid (Array.getElem?_eq_some_iff.1 HKI.out).1
        have MR := Lib.hid (fun w => rune116 r d2 d1 w)
        have HNN := Lib.hid (noAny_run HN.out d5)
        clear hxl hx hxb h128 d1 d2 d5 hp hwi
        go_wp2_with fail
        refine (MR.out _).mono ?_
        rintro e w2 ⟨rfl, hb2⟩
        have HB2 : Hid (Below w'.heap.size w' w2) := Lib.hid (HBI.out.trans (hb2.mono HBI.out.size))
        have HK2 : Hid (w2.heap[w'.heap.size]? = some (.stringIter s (i + n))) := Lib.hid ((hb2.block _ HSI.out).trans HKI.out)
        clear hb2
        go_wp2_with fail
        go_roundg (s.size - (i + n))
        case measure => omega
        case rel => exact ⟨i + n, by omega, HK2.out, HB2.out, HNN.out⟩
theorem any82 (s : ByteArray) (hl : s.size < 4294967281) (w : World) : Calls Tryz.prog 82 #[.string s, .string ⟨#[44, 32]⟩] w fun e w' => e = .returned (.int .i64 (Lib.indexAny s.data.toList [44, 32])) ∧ Below w.heap.size w w' := by
  by_cases h : s.size ≤ 8
  · exact any82s s h w
  · refine (Tryz.strings_IndexAny_long (zero_of_info h171).1 s ⟨#[44, 32]⟩ w (by decide) (by omega) hl (by decide) (fun j b hb => ?_)).mono ?_
    · match j, hb with
      | 0, hb => cases hb; decide
      | 1, hb => cases hb; decide
      | j + 2, hb => simp at hb
    · rintro e w' ⟨rfl, rfl⟩
      exact ⟨rfl, ((Below.refl _ _).alloc (Nat.le_refl _) _).alloc (by simp) _⟩
end Go.Proofs.YtagiddbfhlokcaaGreatDoor.Ser
/- A value's text cut off a line, by the program and by the reference. Condition: the text's length. -/
namespace Go.Proofs.YtagiddbfhlokcaaGreatDoor.Ser
open Go.RowKit Go.Sort
set_option maxRecDepth 100000
def CvPost (l : List UInt8) (w : World) (e : Ending) (w' : World) : Prop :=
  Below w.heap.size w w' ∧ match vEnd l with
    | some m => e = .returned (.tuple #[.string (bs (l.take m)), .string (bs (l.drop m)), .bool true])
    | none => ∃ a b, e = .returned (.tuple #[.string a, .string b, .bool false])
def InCv (l : List UInt8) (w : World) (v : Value) (wr : World) : Prop :=
  ∃ k : Nat, v = .int .i64 (k : Int) ∧ 1 ≤ k ∧ ((k ≤ l.length ∧ qa 1 l.tail = qa k (l.drop k)) ∨ (k = l.length + 1 ∧ qa 1 l.tail = none)) ∧ Below w.heap.size w wr
theorem take_bs (l : List UInt8) (k : Nat) : (bs l).extract 0 k = bs (l.take k) := by
  apply ByteArray.ext
  apply Array.toList_inj.1
  rw [Lib.extract_data, bs_list, bs_list]
  simp
theorem drop_bs (l : List UInt8) (k : Nat) : (bs l).extract k (bs l).size = bs (l.drop k) := by
  apply ByteArray.ext
  apply Array.toList_inj.1
  rw [Lib.extract_data, bs_list, bs_list, bs_size]
  rw [List.take_of_length_le (by simp)]
theorem byte_bne (c : UInt8) (n : Nat) (hn : n < 256) (h : c ≠ UInt8.ofNat n) : ((c.toNat : Int) != (n : Int)) = true := by
  have := byte_ne c n hn h
  rw [bne, this]; rfl
set_option maxHeartbeats 4000000 in
theorem cutv42 (l : List UInt8) (hl : l.length < 4294967281) (w : World) : Calls Tryz.prog 42 #[.string (bs l)] w (CvPost l w) := by
  have M82 := Lib.hid (fun w => any82 (bs l) (by rw [bs_size]; exact hl) w)
  rw [bs_list] at M82
  have M41 := Lib.hid (fun w => hasP l 34 w)
  obtain ⟨z, hz⟩ : ∃ z, Lib.indexAny l [44, 32] = z := ⟨_, rfl⟩
  have HT := Lib.hid (any_tw l)
  rw [hz] at M82 HT
  obtain ⟨P, hP⟩ : ∃ P, CvPost l w = P := ⟨_, rfl⟩
  have HP := Lib.hid hP
  rw [hP]
  have HSZ := Lib.hid (bs_size l)
  obtain ⟨bq, hbq⟩ : ∃ b, headIs 34 l = b := ⟨_, rfl⟩
  rw [hbq] at M41
  have HBQ := Lib.hid hbq
  clear hz hP hbq
  go_enter Tryz.func42, Tryz.ntmps42
  go_wp2_with fail
  refine (M82.out _).mono ?_
  rintro e w1 ⟨rfl, hb1⟩
  have HB1 := Lib.hid hb1
  clear hb1
  go_wp2_with fail
  refine (M41.out _).mono ?_
  rintro e w' ⟨rfl, rfl⟩
  cases bq with
  | true =>
    go_wp2_with fail
    go_loopw [5] (fun v wr => InCv l w v wr) (fun v _ => l.length + 1 - (intOf v).toNat)
    case atStart =>
      refine ⟨1, rfl, Nat.le_refl _, .inl ⟨?_, ?_⟩, HB1.out⟩
      · have := HBQ.out
        cases l with
        | nil => cases this
        | cons c r => simp
      · rw [List.drop_one]
    case round =>
      obtain ⟨k, rfl, hk1, hq, hb⟩ := hrel
      have HB := Lib.hid hb
      clear hb
      have HNONE : ∀ wz, Below w.heap.size w wz → vEnd l = none → ∀ a b : ByteArray, ∀ q : Bool, q = false → P (.returned (.tuple #[.string a, .string b, .bool q])) wz := fun wz hb hv a b q hq => by
        rw [← HP.out, hq]
        refine ⟨hb, ?_⟩
        rw [hv]
        exact ⟨a, b, rfl⟩
      have HN := Lib.hid HNONE
      have HV0 : Hid (vEnd l = qa 1 l.tail) := Lib.hid (by unfold vEnd; rw [HBQ.out, if_pos rfl])
      clear HNONE
      rcases hq with ⟨hk, hq⟩ | ⟨hk, hq⟩
      · rcases list_cases (l.drop k) with e | ⟨c, t, e⟩
        · have hke : l.length ≤ k := List.drop_eq_nil_iff.1 e
          have HV : Hid (vEnd l = none) := Lib.hid (by rw [HV0.out, hq, e]; rfl)
          have h1 : ¬ (k : Int) < ((bs l).size : Int) := by rw [HSZ.out]; omega
          have H2 : Hid (decide ((k : Int) + 1 ≤ ((bs l).size : Int)) = false) := Lib.hid (decide_eq_false (by rw [HSZ.out]; omega))
          have hkb : (k : Int) ≤ 4294967290 := by omega
          clear hq e hke hk
          go_wp2_with fail
          go_region
          go_wp2_with fail
          go_ret3
          exact HN.out _ (by first | exact HB.out.drew | exact HB.out) HV.out _ _ _ H2.out
        · obtain ⟨hlt, hg, hz, hd, hkl⟩ := at_cons e
          by_cases h34 : c = 34
          · have c34 : ((c.toNat : Int) != 34) = false := by rw [h34]; rfl
            have HV : Hid (vEnd l = some (k + 1)) := Lib.hid (by rw [HV0.out, hq, e, h34, qa_q])
            have HM : Hid (min ((k : Int) + 1) ((bs l).size : Int) = ((k + 1 : Nat) : Int)) := Lib.hid (by rw [HSZ.out]; omega)
            have H2 : Hid (decide ((k : Int) + 1 ≤ ((bs l).size : Int)) = true) := Lib.hid (decide_eq_true (by rw [HSZ.out]; omega))
            clear hq e hk h34
            go_wp2_with fail
            go_region
            go_wp2_with fail
            go_ret3
            rw [← HP.out]
            refine ⟨HB.out.drew, ?_⟩
            rw [HV.out]
            simp only [HM.out, H2.out, Int.toNat_natCast]
            rw [take_bs, drop_bs]
            rfl
          · have c34 : ((c.toNat : Int) != 34) = true := byte_bne c 34 (by decide) h34
            by_cases h92 : c = 92
            · have c92 : ((c.toNat : Int) == 92) = true := byte_eq c 92 (by decide) h92
              cases t with
              | nil =>
                have HR : Hid (InCv l w (.int .i64 ((k : Int) + 1 + 1)) wr) := Lib.hid ⟨k + 2, congrArg (Value.int .i64) (by omega), by omega, .inr ⟨by have := congrArg List.length e; simp at this; omega, by rw [hq, e, h92, qa_esc0]⟩, HB.out⟩
                clear hq e h34 h92 hd
                go_wp2_with fail
                go_roundw
                case rel => exact HR.out
                case measure => simp [intOf]; omega
              | cons d r =>
                have hd2 : l.drop (k + 2) = r := by rw [← List.drop_drop, e]; rfl
                have HR : Hid (InCv l w (.int .i64 ((k : Int) + 1 + 1)) wr) := Lib.hid ⟨k + 2, congrArg (Value.int .i64) (by omega), by omega, .inl ⟨by have := congrArg List.length e; simp at this; omega, by rw [hq, e, h92, qa_esc, hd2]⟩, HB.out⟩
                clear hq e h34 h92 hd hd2
                go_wp2_with fail
                go_roundw
                case rel => exact HR.out
                case measure => simp [intOf]; omega
            · have c92 : ((c.toNat : Int) == 92) = false := byte_ne c 92 (by decide) h92
              have HR : Hid (InCv l w (.int .i64 ((k : Int) + 1)) wr) := Lib.hid ⟨k + 1, congrArg (Value.int .i64) (by omega), by omega, .inl ⟨hkl, by rw [hq, e, qa_next _ _ _ h34 h92, hd]⟩, HB.out⟩
              clear hq e h34 h92 hd
              go_wp2_with fail
              go_roundw
              case rel => exact HR.out
              case measure => simp [intOf]; omega
      · have HV : Hid (vEnd l = none) := Lib.hid (by rw [HV0.out, hq])
        have h1 : ¬ (k : Int) < ((bs l).size : Int) := by rw [HSZ.out]; omega
        have H2 : Hid (decide ((k : Int) + 1 ≤ ((bs l).size : Int)) = false) := Lib.hid (decide_eq_false (by rw [HSZ.out]; omega))
        obtain ⟨kk, hkk⟩ : ∃ kk, kk = k := ⟨_, rfl⟩
        have hkb : (kk : Int) ≤ 4294967290 := by omega
        rw [← hkk] at h1 H2 ⊢
        clear hq hk hkk
        go_wp2_with fail
        go_region
        go_wp2_with fail
        go_ret3
        exact HN.out _ (by first | exact HB.out.drew | exact HB.out) HV.out _ _ _ H2.out
  | false =>
    have HV0 : Hid (vEnd l = some (l.takeWhile nsep).length) := Lib.hid (by unfold vEnd; rw [HBQ.out]; rfl)
    rcases HT.out with ⟨hz, ht⟩ | hz
    · subst hz
      have HTT := Lib.hid ht
      clear ht
      go_wp2_with fail
      go_quiet (fail)
      go_wp2_with fail
      go_ret3
      rw [← HP.out]
      refine ⟨below_drewN HB1.out _, ?_⟩
      rw [HV0.out, HTT.out]
      simp only [HSZ.out]
      rw [List.take_length, List.drop_length]
      rfl
    · obtain ⟨m, hm⟩ : ∃ m, (l.takeWhile nsep).length = m := ⟨_, rfl⟩
      have hml : m ≤ l.length := by rw [← hm]; exact (List.takeWhile_sublist nsep).length_le
      rw [hm] at hz HV0
      subst hz
      have hmz : ¬ (m : Int) < 0 := by omega
      have hmb : (m : Int) ≤ ((bs l).size : Int) := by rw [HSZ.out]; omega
      clear hm hml
      go_wp2_with fail
      go_quiet (fail)
      go_wp2_with fail
      go_ret3
      rw [← HP.out]
      refine ⟨below_drewN HB1.out _, ?_⟩
      rw [HV0.out]
      simp only
      rw [take_bs, drop_bs]
      rfl
def VePost (l : List UInt8) (at_ : Nat) (w : World) (e : Ending) (w' : World) : Prop :=
  w = w' ∧ match vEnd (l.drop at_) with
    | some m => e = .returned (.tuple #[.int .i64 ((at_ + m : Nat) : Int), .bool true])
    | none => ∃ z, e = .returned (.tuple #[.int .i64 z, .bool false])
def InVe (l : List UInt8) (at_ : Nat) (w : World) (v : Value) (wr : World) : Prop :=
  ∃ k : Nat, v = .int .i64 ((at_ + k : Nat) : Int) ∧ 1 ≤ k ∧ ((at_ + k ≤ l.length ∧ qa 1 (l.drop (at_ + 1)) = qa k (l.drop (at_ + k))) ∨ (at_ + k = l.length + 1 ∧ qa 1 (l.drop (at_ + 1)) = none)) ∧ w = wr
def InVw (l : List UInt8) (at_ : Nat) (w : World) (v : Value) (wr : World) : Prop :=
  ∃ k : Nat, v = .int .i64 ((at_ + k : Nat) : Int) ∧ at_ + k ≤ l.length ∧ ((l.drop at_).takeWhile nsep).length = k + ((l.drop (at_ + k)).takeWhile nsep).length ∧ w = wr
set_option maxHeartbeats 4000000 in
theorem vend36 (l : List UInt8) (at_ : Nat) (hl : l.length < 4294967281) (ha : at_ ≤ l.length) (w : World) : Calls Tryz.prog 36 #[.string (bs l), .int .i64 (at_ : Int)] w (VePost l at_ w) := by
  obtain ⟨P, hP⟩ : ∃ P, VePost l at_ w = P := ⟨_, rfl⟩
  have HP := Lib.hid hP
  rw [hP]
  have HSZ := Lib.hid (bs_size l)
  clear hP
  obtain ⟨bq, hbq⟩ : ∃ b, headIs 34 (l.drop at_) = b := ⟨_, rfl⟩
  have HBQ := Lib.hid hbq
  clear hbq
  go_enter Tryz.func36, Tryz.ntmps36
  go_upto_region 1 with (fail)
  go_cut [16] from 7 to 16 (fun v w' => v = .bool bq ∧ w = w')
  case first =>
    rcases list_cases (l.drop at_) with e | ⟨c, t, e⟩
    · have h1 := (at_nil ha e).1
      obtain rfl : false = bq := by rw [← HBQ.out, e]; rfl
      clear e
      go_wp2_with fail
      go_meet
      case rel => exact ⟨rfl, rfl⟩
    · obtain ⟨hlt, hg, hz, hd, hkl⟩ := at_cons e
      by_cases h34 : c = 34
      · have c34 : ((c.toNat : Int) == 34) = true := byte_eq c 34 (by decide) h34
        obtain rfl : true = bq := by rw [← HBQ.out, e, h34]; rfl
        clear e h34 hd
        go_wp2_with fail
        go_meet
        case rel => exact ⟨rfl, rfl⟩
      · have c34 : ((c.toNat : Int) == 34) = false := byte_ne c 34 (by decide) h34
        obtain rfl : false = bq := by rw [← HBQ.out, e]; simp [headIs, h34]
        clear e h34 hd
        go_wp2_with fail
        go_meet
        case rel => exact ⟨rfl, rfl⟩
  case rest =>
    obtain ⟨rfl, rfl⟩ := hcut
    cases bq with
    | true =>
      have HV0 : Hid (vEnd (l.drop at_) = qa 1 (l.drop (at_ + 1))) := Lib.hid (by unfold vEnd; rw [HBQ.out, if_pos rfl, List.tail_drop])
      have HA1 : at_ + 1 ≤ l.length := by
        have := HBQ.out
        rcases list_cases (l.drop at_) with e | ⟨c, t, e⟩
        · rw [e] at this; cases this
        · exact (at_cons e).2.2.2.2
      go_wp2_with fail
      go_loopw [6] (fun v wr => InVe l at_ w v wr) (fun v _ => l.length + 1 - (intOf v).toNat)
      case atStart => exact ⟨1, rfl, Nat.le_refl _, .inl ⟨HA1, rfl⟩, rfl⟩
      case round =>
        obtain ⟨k, rfl, hk1, hq, rfl⟩ := hrel
        obtain ⟨q, hqk⟩ : ∃ q, at_ + k = q := ⟨_, rfl⟩
        rw [hqk] at hq ⊢
        rcases hq with ⟨hk, hq⟩ | ⟨hk, hq⟩
        · rcases list_cases (l.drop q) with e | ⟨c, t, e⟩
          · have h1 := (at_nil hk e).1
            have HV : Hid (vEnd (l.drop at_) = none) := Lib.hid (by rw [HV0.out, hq, e]; rfl)
            clear hq e
            go_wp2_with fail
            rw [← HP.out]
            refine ⟨rfl, ?_⟩
            rw [HV.out]
            exact ⟨_, rfl⟩
          · obtain ⟨hlt, hg, hz, hd, hkl⟩ := at_cons e
            by_cases h92 : c = 92
            · have c92 : ((c.toNat : Int) == 92) = true := byte_eq c 92 (by decide) h92
              have HR : Hid (InVe l at_ w (.int .i64 ((q : Int) + 1 + 1)) w) := Lib.hid (by
                cases t with
                | nil => exact ⟨k + 2, congrArg (Value.int .i64) (by omega), by omega, .inr ⟨by have := congrArg List.length e; simp at this; omega, by rw [hq, e, h92, qa_esc0]⟩, rfl⟩
                | cons d r =>
                  have hd2 : l.drop (at_ + (k + 2)) = r := by
                    rw [show at_ + (k + 2) = q + 2 by omega, ← List.drop_drop, e]; rfl
                  exact ⟨k + 2, congrArg (Value.int .i64) (by omega), by omega, .inl ⟨by have := congrArg List.length e; simp at this; omega, by rw [hq, e, h92, qa_esc, hd2]⟩, rfl⟩)
              clear hq e h92 hd
              go_wp2_with fail
              go_roundw
              case rel => exact HR.out
              case measure => simp [intOf]; omega
            · have c92 : ((c.toNat : Int) == 92) = false := byte_ne c 92 (by decide) h92
              by_cases h34 : c = 34
              · have c34 : ((c.toNat : Int) == 34) = true := byte_eq c 34 (by decide) h34
                have HV : Hid (vEnd (l.drop at_) = some (k + 1)) := Lib.hid (by rw [HV0.out, hq, e, h34, qa_q])
                have HQ : Hid ((q : Int) + 1 = ((at_ + (k + 1) : Nat) : Int)) := Lib.hid (by omega)
                clear hq e h34 h92 hd hqk
                go_wp2_with fail
                rw [← HP.out]
                refine ⟨rfl, ?_⟩
                rw [HV.out]
                simp only [HQ.out]
                all_goals rfl
              · have c34 : ((c.toNat : Int) == 34) = false := byte_ne c 34 (by decide) h34
                have HR : Hid (InVe l at_ w (.int .i64 ((q : Int) + 1)) w) := Lib.hid ⟨k + 1, congrArg (Value.int .i64) (by omega), by omega, .inl ⟨by omega, by rw [hq, e, qa_next _ _ _ h34 h92, show at_ + (k + 1) = q + 1 by omega, hd]⟩, rfl⟩
                clear hq e h34 h92 hd
                go_wp2_with fail
                go_roundw
                case rel => exact HR.out
                case measure => simp [intOf]; omega
        · have HV : Hid (vEnd (l.drop at_) = none) := Lib.hid (by rw [HV0.out, hq])
          have h1 : ¬ (q : Int) < ((bs l).size : Int) := by rw [HSZ.out]; omega
          clear hq hk hqk
          go_wp2_with fail
          rw [← HP.out]
          refine ⟨rfl, ?_⟩
          rw [HV.out]
          exact ⟨_, rfl⟩
    | false =>
      have HV0 : Hid (vEnd (l.drop at_) = some ((l.drop at_).takeWhile nsep).length) := Lib.hid (by unfold vEnd; rw [HBQ.out]; rfl)
      go_wp2_with fail
      go_loopw [1] (fun v wr => InVw l at_ w v wr) (fun v _ => l.length + 1 - (intOf v).toNat)
      case atStart => exact ⟨0, rfl, ha, by simp, rfl⟩
      case round =>
        obtain ⟨k, rfl, hk, ht, rfl⟩ := hrel
        obtain ⟨q, hqk⟩ : ∃ q, at_ + k = q := ⟨_, rfl⟩
        rw [hqk] at hk ht ⊢
        rcases list_cases (l.drop q) with e | ⟨c, t, e⟩
        · have h1 := (at_nil hk e).1
          have HV : Hid (vEnd (l.drop at_) = some k) := Lib.hid (by rw [HV0.out, ht, e]; rfl)
          have HQ : Hid ((q : Int) = ((at_ + k : Nat) : Int)) := Lib.hid (by omega)
          clear e ht hqk
          go_wp2_with fail
          rw [← HP.out]
          refine ⟨rfl, ?_⟩
          rw [HV.out]
          simp only [HQ.out]
          all_goals rfl
        · obtain ⟨hlt, hg, hz, hd, hkl⟩ := at_cons e
          rw [e, List.takeWhile_cons] at ht
          by_cases h44 : c = 44
          · have c44 : ((c.toNat : Int) != 44) = false := by rw [h44]; rfl
            have HV : Hid (vEnd (l.drop at_) = some k) := Lib.hid (by rw [HV0.out, ht, h44]; rfl)
            have HQ : Hid ((q : Int) = ((at_ + k : Nat) : Int)) := Lib.hid (by omega)
            clear e ht hqk h44 hd
            go_wp2_with fail
            rw [← HP.out]
            refine ⟨rfl, ?_⟩
            rw [HV.out]
            simp only [HQ.out]
            all_goals rfl
          · have c44 : ((c.toNat : Int) != 44) = true := byte_bne c 44 (by decide) h44
            by_cases h32 : c = 32
            · have c32 : ((c.toNat : Int) != 32) = false := by rw [h32]; rfl
              have HV : Hid (vEnd (l.drop at_) = some k) := Lib.hid (by rw [HV0.out, ht, h32]; rfl)
              have HQ : Hid ((q : Int) = ((at_ + k : Nat) : Int)) := Lib.hid (by omega)
              clear e ht hqk h44 h32 hd
              go_wp2_with fail
              rw [← HP.out]
              refine ⟨rfl, ?_⟩
              rw [HV.out]
              simp only [HQ.out]
              all_goals rfl
            · have c32 : ((c.toNat : Int) != 32) = true := byte_bne c 32 (by decide) h32
              have hns : nsep c = true := by simp [nsep, h44, h32]
              rw [hns, if_pos rfl] at ht
              have HR : Hid (InVw l at_ w (.int .i64 ((q : Int) + 1)) w) := Lib.hid ⟨k + 1, congrArg (Value.int .i64) (by omega), by omega, by rw [show at_ + (k + 1) = q + 1 by omega, hd, ht]; simp; omega, rfl⟩
              clear e ht h44 h32 hd hns
              go_wp2_with fail
              go_roundw
              case rel => exact HR.out
              case measure => simp [intOf]; omega
end Go.Proofs.YtagiddbfhlokcaaGreatDoor.Ser
/- A name that ends with a sign, by the reference. Condition: the text's length. -/
namespace Go.Proofs.YtagiddbfhlokcaaGreatDoor.Ser
open Go.RowKit Go.Sort
set_option maxRecDepth 100000
theorem scan_suffix : ∀ (n : Nat) {acc l b r : List UInt8}, l.length ≤ n → scan acc l = some (b, r) → ∃ k, r = l.drop k
  | n, acc, [], b, r, _, h => by
    simp [scan] at h
    exact ⟨0, by rw [h.2]; rfl⟩
  | 0, acc, c :: l, b, r, hn, h => by simp at hn
  | n + 1, acc, c :: l, b, r, hn, h => by
    by_cases h92 : c.toNat = 92
    · cases l with
      | nil => rw [scan_end _ _ h92] at h; cases h
      | cons d l =>
        cases hs : spec d with
        | true =>
          rw [scan_esc _ _ _ _ h92 hs] at h
          obtain ⟨k, hk⟩ := scan_suffix n (by simp at hn; omega) h
          exact ⟨k + 2, by rw [hk]; rfl⟩
        | false => rw [scan_bad _ _ _ _ h92 hs] at h; cases h
    · cases hs : spec c with
      | true =>
        rw [scan_stop _ _ _ h92 hs] at h
        simp at h
        exact ⟨0, by rw [← h.2]; rfl⟩
      | false =>
        rw [scan_plain _ _ _ h92 hs] at h
        obtain ⟨k, hk⟩ := scan_suffix n (by simp at hn; omega) h
        exact ⟨k + 1, by rw [hk]; rfl⟩
/-- What a scan leaves is the text from the place on at which it ended. -/
theorem scan_rest {l : List UInt8} {k0 : Nat} {b r : List UInt8} (hk0 : k0 ≤ l.length) (h : scan [] (l.drop k0) = some (b, r)) : r = l.drop (l.length - r.length) ∧ k0 ≤ l.length - r.length ∧ r.length ≤ l.length := by
  obtain ⟨k, hk⟩ := scan_suffix _ (Nat.le_refl _) h
  have hl := (scan_len _ (Nat.le_refl _) h).1
  rw [List.length_drop] at hl
  rw [List.drop_drop] at hk
  have h1 : r.length = l.length - (k0 + k) := by rw [hk, List.length_drop]
  refine ⟨?_, by omega, by omega⟩
  by_cases h2 : k0 + k ≤ l.length
  · rw [show l.length - r.length = k0 + k by omega]; exact hk
  · have h3 : r = [] := List.eq_nil_of_length_eq_zero (by omega)
    rw [h3]
    simp
def PcPost (l : List UInt8) (k0 : Nat) (w : World) (e : Ending) (w' : World) : Prop :=
  Below w.heap.size w w' ∧ ∃ (n : ByteArray) (z : Int) (ok : Bool), e = .returned (.tuple #[.string n, .int .i64 z, .bool ok]) ∧
    (ok = true → ∃ nb r, scan [] (l.drop k0) = some (nb, r) ∧ n = ofL nb ∧ z = ((l.length - r.length : Nat) : Int)) ∧ (ok = false → scan [] (l.drop k0) = none)
theorem part33 (l : List UInt8) (k0 : Nat) (w : World) (hl : l.length ≤ 140737488355328) (hk0 : k0 ≤ l.length) : Calls Tryz.prog 33 #[.string (bs l), .int .i64 (k0 : Int)] w (PcPost l k0 w) := by
  refine (part (bs l) k0 w (by rw [bs_size]; exact hl) (by rw [bs_size]; exact hk0)).mono ?_
  rw [bs_list]
  rintro e w' ⟨hb, h⟩
  refine ⟨hb, ?_⟩
  cases hs : scan [] (l.drop k0) with
  | none =>
    rw [hs] at h
    obtain ⟨z, rfl⟩ := h
    exact ⟨_, _, _, rfl, (fun h => nomatch h), fun _ => rfl⟩
  | some p =>
    obtain ⟨nb, r⟩ := p
    rw [hs] at h
    simp only at h
    rw [bs_size] at h
    exact ⟨_, _, _, h, (fun _ => ⟨nb, r, rfl, rfl, rfl⟩), fun h => nomatch h⟩
def NmPost (l : List UInt8) (k0 : Nat) (sg : UInt8) (w : World) (e : Ending) (w' : World) : Prop :=
  Below w.heap.size w w' ∧ ∃ (n : ByteArray) (z : Int) (ok : Bool), e = .returned (.tuple #[.string n, .int .i64 z, .bool ok]) ∧
    (ok = true → ∃ nb r, scan [] (l.drop k0) = some (nb, r) ∧ nameB nb = true ∧ headIs sg r = true ∧ n = ofL nb ∧ z = ((l.length - r.length : Nat) : Int)) ∧
    (ok = false → scan [] (l.drop k0) = none ∨ ∃ nb r, scan [] (l.drop k0) = some (nb, r) ∧ (nameB nb && headIs sg r) = false)
set_option maxHeartbeats 4000000 in
theorem name35 (l : List UInt8) (k0 : Nat) (sg : UInt8) (w : World) (hl : l.length ≤ 140737488355328) (hk0 : k0 ≤ l.length) : Calls Tryz.prog 35 #[.string (bs l), .int .i64 (k0 : Int), .int .u8 (sg.toNat : Int)] w (NmPost l k0 sg w) := by
  obtain ⟨P, hP⟩ : ∃ P, NmPost l k0 sg w = P := ⟨_, rfl⟩
  have HP := Lib.hid hP
  rw [hP]
  have MP := Lib.hid (part33 l k0 w hl hk0)
  have HSZ := Lib.hid (bs_size l)
  have HSC := Lib.hid (fun (nb r : List UInt8) (h : scan [] (l.drop k0) = some (nb, r)) => And.intro (scan_rest hk0 h) (scan_len _ (Nat.le_refl _) h).2)
  clear hP
  go_enter Tryz.func35, Tryz.ntmps35
  go_wp2_with fail
  refine MP.out.mono ?_
  rintro e w1 ⟨hb, n, z, ok, rfl, hy, hn⟩
  have HB := Lib.hid hb
  clear hb
  cases ok with
  | false =>
    have HN := Lib.hid (hn rfl)
    clear hy hn
    go_wp2_with fail
    go_quiet (fail)
    go_wp2_with fail
    go_ret3
    rw [← HP.out]
    exact ⟨below_drewN HB.out _, _, _, _, rfl, (fun h => nomatch h), fun _ => .inl HN.out⟩
  | true =>
    obtain ⟨nb, r, hs, rfl, rfl⟩ := hy rfl
    have HS := Lib.hid hs
    obtain ⟨⟨hr1, hr2, hr3⟩, hr4⟩ := HSC.out nb r hs
    obtain ⟨q, hq⟩ : ∃ q, l.length - r.length = q := ⟨_, rfl⟩
    rw [hq] at hr1 hr2 ⊢
    have HQ := Lib.hid hq
    have M34 : ∀ n, Calls Tryz.prog 34 #[.string (ofL nb)] (w1.drewN n) fun e w' => e = .returned (.bool (nameB nb)) ∧ ∃ m, w' = w1.drewN m := fun n =>
      (rname (ofL nb) (w1.drewN n) (by rw [show (ofL nb).size = nb.length by simp [ofL, ByteArray.size]]; unfold maxLen; simp at hr4; omega)).mono fun e w' ⟨h1, h2⟩ => ⟨by rw [h1]; simp [ofL], n, h2.symm⟩
    obtain ⟨bn, hbn⟩ : ∃ b, nameB nb = b := ⟨_, rfl⟩
    rw [hbn] at M34
    have MN := Lib.hid M34
    have HBN := Lib.hid hbn
    clear hy hn hs hq M34 hbn
    cases bn with
    | false =>
      clear hr1 hr2 hr3 hr4
      go_wp2_with fail
      go_quiet ((go_at_call 34; with_reducible exact MN.out _))
      go_wp2_with fail
      go_ret3
      rw [← HP.out]
      exact ⟨below_drewN HB.out _, _, _, _, rfl, (fun h => nomatch h), fun _ => .inr ⟨nb, r, HS.out, by rw [HBN.out]; rfl⟩⟩
    | true =>
      rcases list_cases (l.drop q) with e | ⟨c, t, e⟩
      · have hql : l.length ≤ q := List.drop_eq_nil_iff.1 e
        have H1 : Hid (decide (q < (bs l).size) = false) := Lib.hid (decide_eq_false (by rw [HSZ.out]; omega))
        have HRN : Hid (headIs sg r = false) := Lib.hid (by rw [hr1, e]; rfl)
        clear hr1 hr2 hr3 hr4 e hql
        go_wp2_with fail
        have h1 := H1.out
        go_quiet ((go_at_call 34; with_reducible exact MN.out _))
        go_wp2_with fail
        go_ret3
        rw [← HP.out]
        exact ⟨below_drewN HB.out _, _, _, _, rfl, (fun h => nomatch h), fun _ => .inr ⟨nb, r, HS.out, by rw [HRN.out, Bool.and_false]⟩⟩
      · obtain ⟨hlt, hg, hz, hd, hkl⟩ := at_cons e
        by_cases hc : c = sg
        · have hcc : ((c.toNat : Int) == (sg.toNat : Int)) = true := by rw [hc]; simp
          have HRN : Hid (headIs sg r = true) := Lib.hid (by rw [hr1, e, hc]; simp [headIs])
          clear hr1 hr2 hr3 hr4 e hd hkl hc
          go_wp2_with fail
          go_quiet ((go_at_call 34; with_reducible exact MN.out _))
          go_wp2_with fail
          go_ret3
          rw [← HP.out]
          exact ⟨below_drewN HB.out _, _, _, _, rfl, (fun _ => ⟨nb, r, HS.out, HBN.out, HRN.out, rfl, by rw [HQ.out]⟩), fun h => nomatch h⟩
        · have hcc : ((c.toNat : Int) == (sg.toNat : Int)) = false := by
            rw [beq_eq_false_iff_ne]
            intro h
            exact hc (UInt8.toNat_inj.1 (by omega))
          have HRN : Hid (headIs sg r = false) := Lib.hid (by rw [hr1, e]; simp [headIs, hc])
          clear hr1 hr2 hr3 hr4 e hd hkl hc
          go_wp2_with fail
          go_quiet ((go_at_call 34; with_reducible exact MN.out _))
          go_wp2_with fail
          go_ret3
          rw [← HP.out]
          exact ⟨below_drewN HB.out _, _, _, _, rfl, (fun h => nomatch h), fun _ => .inr ⟨nb, r, HS.out, by rw [HRN.out, Bool.and_false]⟩⟩
end Go.Proofs.YtagiddbfhlokcaaGreatDoor.Ser
/- Reading a line by the program: the fields. Conditions: the text's length; the readers of values. -/
namespace Go.Proofs.YtagiddbfhlokcaaGreatDoor.Ser
open Go.RowKit Go.Sort
set_option maxRecDepth 100000
theorem cutPost_cases {o : Option (List UInt8 × List UInt8)} {w : World} {e : Ending} {w' : World} (h : CutPost o w e w') : ∃ b s ok, e = .returned (.tuple #[.string b, .string s, .bool ok]) ∧ (ok = true → ∃ bl r, o = some (bl, r) ∧ b = ofL bl ∧ s = bs r) ∧ (ok = false → o = none) ∧ Below w.heap.size w w' := by
  obtain ⟨hb, h⟩ := h
  cases o with
  | none =>
    obtain ⟨t, rfl⟩ := h
    exact ⟨_, _, _, rfl, (fun h => nomatch h), fun _ => rfl, hb⟩
  | some p =>
    obtain ⟨b, r⟩ := p
    simp only at h
    exact ⟨_, _, _, h, fun _ => ⟨b, r, rfl, rfl, rfl⟩, (fun h => nomatch h), hb⟩
theorem cut39 (r : List UInt8) (w : World) (hs : r.length ≤ 140737488355328) : Calls Tryz.prog 39 #[.string (bs r)] w (CutPost (scan [] r) w) := by
  have h := cut (bs r) w (by rw [bs_size]; exact hs)
  rw [bs_list] at h
  exact h
theorem ofL_size (l : List UInt8) : (ofL l).size = l.length := by simp [ofL, ByteArray.size]
theorem name40 (nb : List UInt8) (h : nb.length ≤ 140737488355328) (w : World) : Calls Tryz.prog 40 #[.string (ofL nb)] w fun e w' => e = .returned (.bool (nameB nb)) ∧ Below w.heap.size w w' := by
  have := vname (ofL nb) w (by rw [ofL_size]; unfold maxLen; omega)
  rw [show (ofL nb).data.toList = nb by simp [ofL]] at this
  exact this
theorem name_sized {nb : List UInt8} (h : nameB nb = true) : (ofL nb).size ≤ maxLen := by
  unfold nameB at h
  simp at h
  rw [ofL_size]
  unfold maxLen
  omega
/-- What comes behind a field. -/
def nextP (V : List UInt8 → Value × Int) (now : Int) (n : Nat) (acc acc' : List Fd) : List UInt8 → Int × List Fd × Int
  | [] => (0, acc', now)
  | c :: r3 => if c = 44 then fieldsP V now n acc' r3 else if c = 32 then ((PF.intP r3).2, acc', (PF.intP r3).1) else (2, acc, 0)
section
variable {V : List UInt8 → Value × Int} {now : Int} {n : Nat} {acc : List Fd} {r kb r1 : List UInt8}
theorem fp_none (h : scan [] r = none) : fieldsP V now (n + 1) acc r = (2, acc, 0) := by unfold fieldsP; rw [h]
theorem fp_bad (h : scan [] r = some (kb, r1)) (hb : (nameB kb && headIs 61 r1) = false) : fieldsP V now (n + 1) acc r = (2, acc, 0) := by unfold fieldsP; rw [h]; simp only; rw [hb]; rfl
theorem fp_noend (h : scan [] r = some (kb, r1)) (hb : (nameB kb && headIs 61 r1) = true) (hv : vEnd r1.tail = none) : fieldsP V now (n + 1) acc r = (2, acc, 0) := by
  unfold fieldsP; rw [h]; simp only; rw [hb, hv]; rfl
theorem fp_err {m : Nat} (h : scan [] r = some (kb, r1)) (hb : (nameB kb && headIs 61 r1) = true) (hv : vEnd r1.tail = some m) (he : (V (r1.tail.take m)).2 ≠ 0) : fieldsP V now (n + 1) acc r = ((V (r1.tail.take m)).2, acc, 0) := by
  unfold fieldsP; rw [h]; simp only; rw [hb, hv]; simp only [if_true]; rw [if_neg he]
theorem fp_ok {m : Nat} (h : scan [] r = some (kb, r1)) (hb : (nameB kb && headIs 61 r1) = true) (hv : vEnd r1.tail = some m) (he : (V (r1.tail.take m)).2 = 0) : fieldsP V now (n + 1) acc r =
    nextP V now n acc (acc ++ [(ofL kb, valF (V (r1.tail.take m)).1)]) (r1.tail.drop m) := by
  rw [fieldsP, h]; simp only; rw [hb, hv]; simp only [if_true]; rw [if_pos he]
  cases r1.tail.drop m <;> rfl
end
theorem finP_err {name : ByteArray} {tags : List Tg} {er : Int} {acc : List Fd} {t : Int} (h : er ≠ 0) : finP name tags (er, acc, t) = (er, none) := by unfold finP; rw [if_neg h]
/-- A value stored where the last was. -/
theorem PMem.setVal {name : ByteArray} {tags : List Tg} {fields : List Fd} {v vf : Value} {tm : Int} {w wr : World} (k b : Int) (t : ByteArray) (h : PMem name tags fields v vf tm w wr) :
    PMem name tags fields v vf tm w (((wr.setCell ⟨w.heap.size + 2, 0, none⟩ (.int .i64 k)).setCell ⟨w.heap.size + 2, 1, none⟩ (.int .u64 b)).setCell ⟨w.heap.size + 2, 2, none⟩ (.string t)) := by
  obtain ⟨k0, b0, t0, h3⟩ := h.val
  have g1 := heap_setCell_same wr (w.heap.size + 2) 0 _ _ (.int .i64 k) h3
  have g2 := heap_setCell_same _ (w.heap.size + 2) 1 _ _ (.int .u64 b) g1
  have g3 := heap_setCell_same _ (w.heap.size + 2) 2 _ _ (.string t) g2
  have other : ∀ j, j < w.heap.size + 2 → (((wr.setCell ⟨w.heap.size + 2, 0, none⟩ (.int .i64 k)).setCell ⟨w.heap.size + 2, 1, none⟩ (.int .u64 b)).setCell ⟨w.heap.size + 2, 2, none⟩ (.string t)).heap[j]? = wr.heap[j]? := fun j hj => by
    rw [Below.heap_setCell _ _ _ _ (by simp; omega), Below.heap_setCell _ _ _ _ (by simp; omega), Below.heap_setCell _ _ _ _ (by simp; omega)]
  exact ⟨(other _ (by omega)).trans h.res, (other _ (by omega)).trans h.row, ⟨k, b, t, g3⟩, ownsRow_setCell_below (ownsRow_setCell_below (ownsRow_setCell_below h.rt (by simp) _) (by simp) _) (by simp) _,
    ownsRow_setCell_below (ownsRow_setCell_below (ownsRow_setCell_below h.rf (by simp) _) (by simp) _) (by simp) _, h.ap, ((h.bel.setCell (by simp) _).setCell (by simp) _).setCell (by simp) _⟩
theorem PMem.setVal_at {name : ByteArray} {tags : List Tg} {fields : List Fd} {v vf : Value} {tm : Int} {w wr : World} (k b : Int) (t : ByteArray) (h : PMem name tags fields v vf tm w wr) :
    (((wr.setCell ⟨w.heap.size + 2, 0, none⟩ (.int .i64 k)).setCell ⟨w.heap.size + 2, 1, none⟩ (.int .u64 b)).setCell ⟨w.heap.size + 2, 2, none⟩ (.string t)).heap[w.heap.size + 2]? = some (.cells #[.int .i64 k, .int .u64 b, .string t] 53 (0, 0)) := by
  obtain ⟨k0, b0, t0, h3⟩ := h.val
  have g1 := heap_setCell_same wr (w.heap.size + 2) 0 _ _ (.int .i64 k) h3
  have g2 := heap_setCell_same _ (w.heap.size + 2) 1 _ _ (.int .u64 b) g1
  exact heap_setCell_same _ (w.heap.size + 2) 2 _ _ (.string t) g2
theorem PMem.vcells {name : ByteArray} {tags : List Tg} {fields : List Fd} {v vf : Value} {tm : Int} {w wr : World} (h : PMem name tags fields v vf tm w wr) : ∃ k b t,
    wr.cell? ⟨w.heap.size + 2, 0, none⟩ = some (.int .i64 k) ∧ wr.cell? ⟨w.heap.size + 2, 1, none⟩ = some (.int .u64 b) ∧ wr.cell? ⟨w.heap.size + 2, 2, none⟩ = some (.string t) ∧ wr.frozen? ⟨w.heap.size + 2, 0, none⟩ = false ∧ wr.frozen? ⟨w.heap.size + 2, 1, none⟩ = false ∧ wr.frozen? ⟨w.heap.size + 2, 2, none⟩ = false := by
  obtain ⟨k, b, t, h3⟩ := h.val
  exact ⟨k, b, t, Lib.cell_of_heap h3 0, Lib.cell_of_heap h3 1, Lib.cell_of_heap h3 2, Lib.frozen_of_heap h3 0, Lib.frozen_of_heap h3 1, Lib.frozen_of_heap h3 2⟩
/-- Behind an append to the fields. -/
theorem PMem.grownF {name : ByteArray} {tags : List Tg} {fields : List Fd} {v vf : Value} {tm : Int} {w wr w' : World} {o : Obj} (h : PMem name tags fields v vf tm w wr) (hg : (wr.alloc o).grownBy w' vf.ownBlock) :
    w'.heap[w.heap.size]? = some (.cells #[.string ⟨#[]⟩, .slice none 0 0, .slice none 0 0, .int .i64 0] 27 (0, 0)) ∧ w'.heap[w.heap.size + 1]? = some (.cells #[.string name, v, vf, .int .i64 tm] 27 (0, 0)) ∧ (∃ k b t, w'.heap[w.heap.size + 2]? = some (.cells #[.int .i64 k, .int .u64 b, .string t] 53 (0, 0))) ∧ RT w' (w.heap.size + 3) v tags ∧ Below w.heap.size w w' := by
  obtain ⟨k, b, t, h3⟩ := h.val
  have l3 := lt_of_block h3
  have ne : ∀ j, j < w.heap.size + 3 → some j ≠ vf.ownBlock := fun j hj e => by have := (h.rf.lt j e.symm).1; omega
  have al : ∀ j, j < wr.heap.size → (wr.alloc o).heap[j]? = wr.heap[j]? := fun j hj => Below.heap_alloc wr o _ hj
  refine ⟨(hg.block _ (by simp; omega) (ne _ (by omega))).trans ((al _ (by omega)).trans h.res), (hg.block _ (by simp; omega) (ne _ (by omega))).trans ((al _ (by omega)).trans h.row), ⟨k, b, t, (hg.block _ (by simp; omega) (ne _ (by omega))).trans ((al _ (by omega)).trans h3)⟩, ?_, ?_⟩
  · refine (World.ownsRow.alloc h.rt o).kept hg ?_
    cases hv : v.ownBlock with
    | none => exact .inl rfl
    | some g => exact .inr fun e => h.ap g hv e.symm
  · exact (h.bel.alloc h.bel.size o).grown hg (by simp; omega) (fun j hj => by have := (h.rf.lt j hj).1; omega)
theorem PMem.appendF {name : ByteArray} {tags : List Tg} {fields : List Fd} {v vf v1 : Value} {tm : Int} {w wr w' : World} {o : Obj} {p : Fd} {n : Nat} {xs : List Value} (h : PMem name tags fields v vf tm w wr) (hg : (wr.alloc o).grownBy w' vf.ownBlock)
    (hat : v1.ownBlock = vf.ownBlock ∨ v1.ownBlock = some (wr.alloc o).heap.size) (hown : w'.ownsRow (w.heap.size + 3) 64 4 v1 n xs) (hn : n = fields.length + 1) (hx : xs = fields.flatMap encF ++ encF p) :
    PMem name tags (fields ++ [p]) v v1 tm w (w'.setCell ⟨w.heap.size + 1, 2, none⟩ v1) := by
  obtain ⟨f0, f1, ⟨k, b, t, f2⟩, f3, f4⟩ := h.grownF hg
  subst hn hx
  refine ⟨by rw [Below.heap_setCell _ _ _ _ (by simp)]; exact f0, ?_, ⟨k, b, t, ?_⟩, ownsRow_setCell_below f3 (by simp) _, ?_, ?_, f4.setCell (by simp) _⟩
  · rw [heap_setCell_same _ _ _ _ _ _ f1]; rfl
  · rw [Below.heap_setCell _ _ _ _ (by simp)]; exact f2
  · rw [RF, List.length_append, List.flatMap_append]
    exact ownsRow_setCell_below (by simpa using hown) (by simp) _
  · intro g hv e
    rcases hat with h1 | h1
    · rw [h1] at e; exact h.ap g hv e
    · rw [h1] at e
      have := (h.rt.lt g hv).2
      injection e with e
      simp at e
      omega
theorem PMem.setTime {name : ByteArray} {tags : List Tg} {fields : List Fd} {v vf : Value} {tm : Int} {w wr : World} (t : Int) (h : PMem name tags fields v vf tm w wr) : PMem name tags fields v vf t w (wr.setCell ⟨w.heap.size + 1, 3, none⟩ (.int .i64 t)) := by
  obtain ⟨k0, b0, t0, h3⟩ := h.val
  refine ⟨by rw [Below.heap_setCell _ _ _ _ (by simp)]; exact h.res, ?_, ⟨k0, b0, t0, by rw [Below.heap_setCell _ _ _ _ (by simp)]; exact h3⟩, ownsRow_setCell_below h.rt (by simp) _, ownsRow_setCell_below h.rf (by simp) _, h.ap, h.bel.setCell (by simp) _⟩
  rw [heap_setCell_same _ _ _ _ _ _ h.row]; rfl
theorem wp_gen {P : Program} {c : Code} {Q : Exit → Act → World → Prop} {a : Act} {W : World} (R : World → Prop) (h : R W) (k : ∀ w, R w → Code.wp P c Q a w) : Code.wp P c Q a W := k W h
end Go.Proofs.YtagiddbfhlokcaaGreatDoor.Ser
/- The reference's way to put a row in order: the walk. No condition. -/
namespace Go.Proofs.YtagiddbfhlokcaaGreatDoor.Ser
open Go.RowKit Go.Sort
set_option maxRecDepth 100000
theorem rowOk_big {name : ByteArray} {tags : List Tg} {fields : List Fd} (h : 8 < tags.length ∨ 16 < fields.length) : rowOk name (srt keyT tags) (srt keyF fields) = false := by
  have h1 := (srt_perm keyT tags).length_eq
  have h2 := (srt_perm keyF fields).length_eq
  cases e : rowOk name (srt keyT tags) (srt keyF fields) with
  | false => rfl
  | true =>
    unfold rowOk formedB at e
    simp only [Bool.and_eq_true, decide_eq_true_eq] at e
    omega
theorem finP_big {name : ByteArray} {tags : List Tg} {fields : List Fd} {tm : Int} (h : 8 < tags.length ∨ 16 < fields.length) : finP name tags (0, fields, tm) = (2, none) := by
  unfold finP
  rw [if_pos rfl, rowOk_big h]; rfl
/-- Four stores into the result's block. -/
theorem SMem.out {B : Nat} {name : ByteArray} {tags : List Tg} {fields : List Fd} {v vf : Value} {tm : Int} {w wr : World} (h : SMem B name tags fields v vf tm w wr) (x y z u : Value) {R : LR} {er : Int} (hR : R.1 = er)
    (ha : match R.2 with | none => (x, y, z, u) = (.string ⟨#[]⟩, .slice none 0 0, .slice none 0 0, .int .i64 0) | some r => (x, y, z, u) = (.string r.1, v, vf, .int .i64 r.2.2.2) ∧ r.2.1 = tags ∧ r.2.2.1 = fields) :
    RowPostB R B w (.returned (.tuple #[.agg #[x, y, z, u], .int .i64 er])) ((((wr.setCell ⟨w.heap.size + 1, 0, none⟩ x).setCell ⟨w.heap.size + 1, 1, none⟩ y).setCell ⟨w.heap.size + 1, 2, none⟩ z).setCell ⟨w.heap.size + 1, 3, none⟩ u) := by
  have hb := h.base
  have g1 : wr.grownBy _ (some (w.heap.size + 1)) := grown_trans (grown_trans (grown_trans (grown_set wr ⟨w.heap.size + 1, 0, none⟩ x rfl) (grown_set _ ⟨w.heap.size + 1, 1, none⟩ y rfl)) (grown_set _ ⟨w.heap.size + 1, 2, none⟩ z rfl)) (grown_set _ ⟨w.heap.size + 1, 3, none⟩ u rfl)
  refine ⟨h.bel.grown g1 (by have := h.size; omega) (fun k hk => by cases hk; omega), ?_⟩
  subst hR
  cases hr : R.2 with
  | none => rw [hr] at ha; simp only at ha ⊢; cases ha; rfl
  | some r =>
    rw [hr] at ha
    obtain ⟨ha, rfl, rfl⟩ := ha
    cases ha
    refine ⟨v, vf, rfl, h.rt.kept g1 ?_, h.rf.kept g1 ?_, h.ap⟩
    · cases hv : v.ownBlock with
      | none => exact .inl rfl
      | some g => exact .inr fun e => by have := h.lt g hv; cases e; omega
    · cases hv : vf.ownBlock with
      | none => exact .inl rfl
      | some g => exact .inr fun e => by have := h.lf g hv; cases e; omega
theorem SMem.swapT {B : Nat} {name : ByteArray} {fields : List Fd} {vf : Value} {tm : Int} {w wr : World} {A' Z : List Tg} {y x : Tg} {g n cap p q : Nat} (h : SMem B name (A' ++ [y] ++ x :: Z) fields (.slice (some ⟨g, 0, none⟩) n cap) vf tm w wr)
    (hn : (A' ++ [y] ++ x :: Z).length = n) (hp : A'.length = p) (hq : q = p + 1) :
    SMem B name (A' ++ x :: (y :: Z)) fields (.slice (some ⟨g, 0, none⟩) n cap) vf tm w ((((wr.setCell ⟨g, p * 2, none⟩ (.string x.1)).setCell ⟨g, p * 2 + 1, none⟩ (.string x.2)).setCell ⟨g, q * 2, none⟩ (.string y.1)).setCell ⟨g, q * 2 + 1, none⟩ (.string y.2)) := by
  subst hq
  have e : A' ++ [y] ++ x :: Z = A' ++ y :: x :: Z := by simp
  rw [e] at h hn
  subst hn
  exact h.setT (RT.swap h.rt hp) (grown_trans (grown_trans (grown_trans (grown_set wr _ _ rfl) (grown_set _ _ _ rfl)) (grown_set _ _ _ rfl)) (grown_set _ _ _ rfl))
theorem SMem.swapF {B : Nat} {name : ByteArray} {tags : List Tg} {v : Value} {tm : Int} {w wr : World} {A' Z : List Fd} {y x : Fd} {g n cap p q : Nat} (h : SMem B name tags (A' ++ [y] ++ x :: Z) v (.slice (some ⟨g, 0, none⟩) n cap) tm w wr)
    (hn : (A' ++ [y] ++ x :: Z).length = n) (hp : A'.length = p) (hq : q = p + 1) :
    SMem B name tags (A' ++ x :: (y :: Z)) v (.slice (some ⟨g, 0, none⟩) n cap) tm w ((((((((wr.setCell ⟨g, p * 4, none⟩ (.string x.1)).setCell ⟨g, p * 4 + 1, none⟩ (.int .i64 x.2.1)).setCell ⟨g, p * 4 + 2, none⟩ (.int .u64 x.2.2.1)).setCell ⟨g, p * 4 + 3, none⟩ (.string x.2.2.2)).setCell ⟨g, q * 4, none⟩ (.string y.1)).setCell ⟨g, q * 4 + 1, none⟩ (.int .i64 y.2.1)).setCell ⟨g, q * 4 + 2, none⟩ (.int .u64 y.2.2.1)).setCell ⟨g, q * 4 + 3, none⟩ (.string y.2.2.2)) := by
  subst hq
  have e : A' ++ [y] ++ x :: Z = A' ++ y :: x :: Z := by simp
  rw [e] at h hn
  subst hn
  exact h.setF (RF.swap h.rf hp) (grown_trans (grown_trans (grown_trans (grown_trans (grown_trans (grown_trans (grown_trans (grown_set wr _ _ rfl) (grown_set _ _ _ rfl)) (grown_set _ _ _ rfl)) (grown_set _ _ _ rfl)) (grown_set _ _ _ rfl)) (grown_set _ _ _ rfl)) (grown_set _ _ _ rfl)) (grown_set _ _ _ rfl))
theorem SMem.tag {B : Nat} {name : ByteArray} {tags : List Tg} {fields : List Fd} {vf : Value} {tm : Int} {w wr : World} {g n cap i : Nat} (h : SMem B name tags fields (.slice (some ⟨g, 0, none⟩) n cap) vf tm w wr) (hn : tags.length = n) (hi : i < n) :
    wr.cell? ⟨g, i * 2, none⟩ = some (.string (kOf tags i)) ∧ wr.cell? ⟨g, i * 2 + 1, none⟩ = some (.string (vOf tags i)) ∧ wr.frozen? ⟨g, i * 2, none⟩ = false ∧ wr.frozen? ⟨g, i * 2 + 1, none⟩ = false := by
  obtain ⟨e0, e1⟩ := encT_get tags i (by omega)
  have hr := h.rt
  unfold RT at hr
  rw [hn] at hr
  obtain ⟨c0, f0⟩ := own_cell hr e0 (by omega)
  obtain ⟨c1, f1⟩ := own_cell hr e1 (by omega)
  exact ⟨c0, c1, f0, f1⟩
theorem SMem.field {B : Nat} {name : ByteArray} {tags : List Tg} {fields : List Fd} {v : Value} {tm : Int} {w wr : World} {g n cap i : Nat} (h : SMem B name tags fields v (.slice (some ⟨g, 0, none⟩) n cap) tm w wr) (hn : fields.length = n) (hi : i < n) :
    wr.cell? ⟨g, i * 4, none⟩ = some (.string (fE fields i).1) ∧ wr.cell? ⟨g, i * 4 + 1, none⟩ = some (.int .i64 (fE fields i).2.1) ∧ wr.cell? ⟨g, i * 4 + 2, none⟩ = some (.int .u64 (fE fields i).2.2.1) ∧ wr.cell? ⟨g, i * 4 + 3, none⟩ = some (.string (fE fields i).2.2.2) ∧
      wr.frozen? ⟨g, i * 4, none⟩ = false ∧ wr.frozen? ⟨g, i * 4 + 1, none⟩ = false ∧ wr.frozen? ⟨g, i * 4 + 2, none⟩ = false ∧ wr.frozen? ⟨g, i * 4 + 3, none⟩ = false := by
  obtain ⟨e0, e1, e2, e3⟩ := encF_get fields i (by omega)
  have hr := h.rf
  unfold RF at hr
  rw [hn] at hr
  obtain ⟨c0, f0⟩ := own_cell hr e0 (by omega)
  obtain ⟨c1, f1⟩ := own_cell hr e1 (by omega)
  obtain ⟨c2, f2⟩ := own_cell hr e2 (by omega)
  obtain ⟨c3, f3⟩ := own_cell hr e3 (by omega)
  exact ⟨c0, c1, c2, c3, f0, f1, f2, f3⟩
theorem kOf_mid {A' Z : List Tg} {y x : Tg} {p q : Nat} (hp : A'.length = p) (hq : q = p + 1) : (kOf (A' ++ [y] ++ x :: Z) p = y.1 ∧ vOf (A' ++ [y] ++ x :: Z) p = y.2) ∧ (kOf (A' ++ [y] ++ x :: Z) q = x.1 ∧ vOf (A' ++ [y] ++ x :: Z) q = x.2) := by
  subst hp hq
  have e0 : (A' ++ [y] ++ x :: Z)[A'.length]? = some y := by simp
  have e1 : (A' ++ [y] ++ x :: Z)[A'.length + 1]? = some x := by simp
  refine ⟨⟨?_, ?_⟩, ⟨?_, ?_⟩⟩ <;> simp only [kOf, vOf, List.getD_eq_getElem?_getD, e0, e1, Option.getD_some]
theorem fE_mid {A' Z : List Fd} {y x : Fd} {p q : Nat} (hp : A'.length = p) (hq : q = p + 1) : fE (A' ++ [y] ++ x :: Z) p = y ∧ fE (A' ++ [y] ++ x :: Z) q = x := by
  subst hp hq
  have e0 : (A' ++ [y] ++ x :: Z)[A'.length]? = some y := by simp
  have e1 : (A' ++ [y] ++ x :: Z)[A'.length + 1]? = some x := by simp
  refine ⟨?_, ?_⟩ <;> simp only [fE, List.getD_eq_getElem?_getD, e0, e1, Option.getD_some]
set_option maxHeartbeats 16000000 in
theorem sorted38 {L : Nat} (hL : L ≤ 1073741824) (B : Nat) (name : ByteArray) (tags : List Tg) (fields : List Fd) (v vf : Value) (tm : Int) (w : World) (hb : B ≤ w.heap.size) (hrt : RT w B v tags) (hrf : RF w B vf fields)
    (hap : ∀ g, v.ownBlock = some g → vf.ownBlock ≠ some g) (hok : Okay L name tags fields) : Calls Tryz.prog 38 #[.agg #[.string name, v, vf, .int .i64 tm]] w (RowPostB (finP name tags (0, fields, tm)) B w) := by
  obtain ⟨hn1, hn2, hn3, hn4, hn5⟩ := hok
  have HS0 := Lib.hid (SMem.start (name := name) (tm := tm) hb hrt hrf hap)
  obtain ⟨a1, c1, hv1⟩ := hrt.slice
  obtain ⟨a2, c2, hv2⟩ := hrf.slice
  subst hv1 hv2
  obtain ⟨nT, hnT⟩ : ∃ n, tags.length = n := ⟨_, rfl⟩
  obtain ⟨nF, hnF⟩ : ∃ n, fields.length = n := ⟨_, rfl⟩
  obtain ⟨R, hR⟩ : ∃ R, finP name tags (0, fields, tm) = R := ⟨_, rfl⟩
  rw [hR]
  rw [hnT] at HS0 hn4 ⊢
  rw [hnF] at HS0 hn5 ⊢
  have HR := Lib.hid hR
  have HNT := Lib.hid hnT
  have HNF := Lib.hid hnF
  have HN1 := Lib.hid hn1
  have HN2 := Lib.hid hn2
  have HN3 := Lib.hid hn3
  have HB := Lib.hid hb
  clear hR hnT hnF hn1 hn2 hn3 hb hrt hrf hap
  go_enter Tryz.func38, Tryz.ntmps38
  go_upto_region 1 with (fail)
  refine wp_gen (fun wx => SMem B name tags fields _ _ tm w wx) HS0.out ?_
  intro wr hm
  obtain ⟨d0, d1, d2, d3⟩ := hm.cells
  obtain ⟨q0, q1, q2, q3, z0, z1, z2, z3⟩ := hm.rcells
  have HM := Lib.hid hm
  clear hm HS0
  have HBAD : Hid (R = (2, none) → ∀ wx, SMem B name tags fields (.slice a1 nT c1) (.slice a2 nF c2) tm w wx → RowPostB R B w (.returned (.tuple #[.agg #[.string ⟨#[]⟩, .slice none 0 0, .slice none 0 0, .int .i64 0], .int .i64 2])) ((((wx.setCell ⟨w.heap.size + 1, 0, none⟩ (.string ⟨#[]⟩)).setCell ⟨w.heap.size + 1, 1, none⟩ (.slice none 0 0)).setCell ⟨w.heap.size + 1, 2, none⟩ (.slice none 0 0)).setCell ⟨w.heap.size + 1, 3, none⟩ (.int .i64 0))) :=
    Lib.hid (fun h wx hx => by subst h; exact hx.out _ _ _ _ rfl rfl)
  by_cases h8 : 8 < nT
  · have g8 : (8 : Int) < (nT : Int) := by omega
    have HG := Lib.hid h8
    clear h8
    go_wp2_with fail
    exact bodyPost_ret (results38 rfl (four _ _ _ _ HM.out.res)) rfl (HBAD.out (by rw [← HR.out]; exact finP_big (.inl (by rw [HNT.out]; exact HG.out))) _ HM.out)
  · have g8 : (nT : Int) ≤ 8 := by omega
    have HG := Lib.hid h8
    clear h8
    by_cases h16 : 16 < nF
    · have g16 : (16 : Int) < (nF : Int) := by omega
      have HG2 := Lib.hid h16
      clear h16
      go_wp2_with fail
      exact bodyPost_ret (results38 rfl (four _ _ _ _ HM.out.res)) rfl (HBAD.out (by rw [← HR.out]; exact finP_big (.inr (by rw [HNF.out]; exact HG2.out))) _ HM.out)
    · have g16 : (nF : Int) ≤ 16 := by omega
      have HG2 := Lib.hid h16
      clear h16
      have HOUT : Hid (∀ k A x C D wx, k < nT → Ins keyT tags k A x C D → Weak keyT (A ++ x :: C) → SMem B name (A ++ x :: (C ++ D)) fields (.slice a1 nT c1) (.slice a2 nF c2) tm w wx → OutT B name tags fields (.slice a1 nT c1) (.slice a2 nF c2) tm w (.int .i64 ((k : Int) + 1)) wx) :=
        Lib.hid (fun k A x C D wx hk => outT_done (by rw [HNT.out]; exact hk))
      go_wp2_with fail
      clear q0 q1 q2 q3 z0 z1 z2 z3 d0 d1 d2 d3
      go_loopw [24] (fun i wx => OutT B name tags fields (.slice a1 nT c1) (.slice a2 nF c2) tm w i wx) (fun i _ => nT - (intOf i).toNat)
      case atStart => exact ⟨tags, 0, rfl, Nat.zero_le _, List.Perm.refl _, List.Pairwise.nil, HM.out⟩
      case round =>
        obtain ⟨ts, k, rfl, hk, hp, hwk, hmx⟩ := hrel
        rename World => wo
        rw [HNT.out] at hk
        by_cases hlt : k < nT
        · have HMX := Lib.hid hmx
          have HP := Lib.hid hp
          have HWK := Lib.hid hwk
          have hkz : (k : Int) < (nT : Int) := by omega
          have HK := Lib.hid hlt
          clear hmx hp hwk hk hlt
          go_wp2_with fail
          go_loopw [5] (fun j wx => InT B name tags fields (.slice a1 nT c1) (.slice a2 nF c2) tm w k j wx) (fun j _ => (intOf j).toNat)
          case atStart => exact insT_start (by rw [HNT.out]; exact HK.out) HP.out HWK.out HMX.out
          case round =>
            obtain ⟨A, x, C, D, rfl, hI, hmi⟩ := hrel
            rename World => wi
            obtain ⟨d0, d1, d2, d3⟩ := hmi.cells
            have hlen : (A ++ x :: (C ++ D)).length = nT := hI.pm.length_eq.trans HNT.out
            rcases List.eq_nil_or_concat A with rfl | ⟨A', y, hA⟩
            · have hd : decide ((0 : Nat) < 0) = false := by decide
              have HMI := Lib.hid hmi
              have HI := Lib.hid hI
              clear hmi hI hlen
              go_wp2_with fail
              go_quiet (fail)
              go_wp2_with fail
              refine ⟨HOUT.out _ _ _ _ _ _ HK.out HI.out (by rw [List.nil_append]; exact HI.out.stop0) (HMI.out.later (below_drewN (Below.refl _ _) _)), ?_⟩
              simp [intOf]; omega
            · rw [List.concat_eq_append] at hA
              subst hA
              obtain ⟨p, hpl⟩ : ∃ p, A'.length = p := ⟨_, rfl⟩
              obtain ⟨q, hq⟩ : ∃ q, (A' ++ [y]).length = q := ⟨_, rfl⟩
              have hqp : q = p + 1 := by rw [← hq, ← hpl]; simp
              rw [hq]
              obtain ⟨g, cap', hv, _, hlg⟩ := hmi.rt.form (by rw [hlen]; omega)
              injection hv with hv hv1 hv2
              clear hv1 hv2
              subst hv
              have hqn : q < nT := by
                have := hlen
                simp at this hq
                omega
              obtain ⟨⟨k0, _⟩, ⟨k1, _⟩⟩ := kOf_mid (y := y) (x := x) (Z := C ++ D) hpl hqp
              obtain ⟨g0, _⟩ := hmi.tag hlen (show p < nT by omega)
              obtain ⟨g1, _⟩ := hmi.tag hlen hqn
              rw [k0] at g0
              rw [k1] at g1
              have hq0 : (1 : Int) ≤ (q : Int) := by omega
              have hq1 : (q : Int) - 1 < (nT : Int) := by omega
              have hq2 : ((q : Int) - 1).toNat = p := by omega
              have hq3 : IntKind.i64.wrap ((q : Int) - 1) = (q : Int) - 1 := IntWalk.i64_in _ (by omega)
              have hq4 : (q : Int) < (nT : Int) := by omega
              have hd : decide (0 < q) = true := by simp; omega
              have HMI := Lib.hid hmi
              have HI := Lib.hid hI
              have HQ := Lib.hid hqp
              have HPL := Lib.hid hpl
              have HLEN := Lib.hid hlen
              have HQN := Lib.hid hqn
              have HHQ := Lib.hid hq
              clear hmi hI hlen hq hqp hpl hqn k0 k1
              by_cases hgt : y.1.data.toList > x.1.data.toList
              · obtain ⟨b1, b2⟩ := gt_yes hgt
                have HGT := Lib.hid hgt
                clear hgt
                go_wp2_with fail
                go_quiet (fail)
                go_upto_region 9 with (fail)
                refine wp_gen (fun wx => SMem B name (A' ++ [y] ++ x :: (C ++ D)) fields _ _ tm w wx) (HMI.out.later (below_drewN (Below.refl _ _) _)) ?_
                clear g0 g1 d0 d1 d2 d3
                intro wj hmj
                obtain ⟨d0, d1, d2, d3⟩ := hmj.cells
                obtain ⟨g0, g1, g2, g3⟩ := hmj.tag HLEN.out (show p < nT by have := HQ.out; have := HQN.out; omega)
                obtain ⟨g4, g5, g6, g7⟩ := hmj.tag HLEN.out HQN.out
                obtain ⟨⟨k0, k1⟩, ⟨k2, k3⟩⟩ := kOf_mid (y := y) (x := x) (Z := C ++ D) HPL.out HQ.out
                rw [k0] at g0
                rw [k1] at g1
                rw [k2] at g4
                rw [k3] at g5
                have n1 : ¬ g = w.heap.size := by have := hmj.lt g rfl; omega
                have n2 : ¬ w.heap.size = g := by have := hmj.lt g rfl; omega
                have HMJ := Lib.hid hmj
                clear hmj k0 k1 k2 k3
                go_region
                go_upto_region 8 with (fail)
                refine wp_gen (fun wx => SMem B name (A' ++ x :: (y :: (C ++ D))) fields _ _ tm w wx) ((HMJ.out.swapT HLEN.out HPL.out HQ.out).later (Below.refl _ _).drew) ?_
                clear g0 g1 g2 g3 g4 g5 g6 g7 d0 d1 d2 d3
                intro wk hmk
                have HMK := Lib.hid hmk
                clear hmk
                go_wp2_with fail
                refine ⟨⟨A', x, y :: C, D, ?_, HI.out.swap HGT.out, HMK.out⟩, ?_⟩
                · rw [HPL.out, HQ.out]; go_num
                · simp [intOf]; omega
              · rcases gt_no hgt with b1 | ⟨b1, b2⟩
                · have HGT := Lib.hid hgt
                  clear hgt
                  go_wp2_with fail
                  go_quiet (fail)
                  go_wp2_with fail
                  refine ⟨HOUT.out _ _ _ _ _ _ HK.out HI.out (HI.out.stop HGT.out) (HMI.out.later (below_drewN (Below.refl _ _) _)), ?_⟩
                  simp [intOf]; omega
                · have HGT := Lib.hid hgt
                  clear hgt
                  go_wp2_with fail
                  go_quiet (fail)
                  go_wp2_with fail
                  refine ⟨HOUT.out _ _ _ _ _ _ HK.out HI.out (HI.out.stop HGT.out) (HMI.out.later (below_drewN (Below.refl _ _) _)), ?_⟩
                  simp [intOf]; omega
        · have HP := Lib.hid hp
          have hke : k = nT := by omega
          have hwt : Weak keyT ts := by
            have := hp.length_eq.trans HNT.out
            rw [hke, List.take_of_length_le (by omega)] at hwk
            exact hwk
          have HWK := Lib.hid hwt
          have HMT := Lib.hid hmx
          obtain ⟨d0, d1, d2, d3⟩ := hmx.cells
          clear hp hwk hmx hwt hk
          have hke2 : ¬ (k : Int) < (nT : Int) := by omega
          clear hlt hke
          have HOUTF : Hid (∀ k A x C D wx, k < nF → Ins keyF fields k A x C D → Weak keyF (A ++ x :: C) → SMem B name ts (A ++ x :: (C ++ D)) (.slice a1 nT c1) (.slice a2 nF c2) tm w wx → OutF B name ts fields (.slice a1 nT c1) (.slice a2 nF c2) tm w (.int .i64 ((k : Int) + 1)) wx) :=
            Lib.hid (fun k A x C D wx hk => outF_done (by rw [HNF.out]; exact hk))
          go_wp2_with fail
          clear d0 d1 d2 d3
          go_loopw [78] (fun i wx => OutF B name ts fields (.slice a1 nT c1) (.slice a2 nF c2) tm w i wx) (fun i _ => nF - (intOf i).toNat)
          case atStart => exact ⟨fields, 0, rfl, Nat.zero_le _, List.Perm.refl _, List.Pairwise.nil, HMT.out⟩
          case round =>
            obtain ⟨fs, k, rfl, hk, hp, hwk, hmx⟩ := hrel
            rename World => wo2
            rw [HNF.out] at hk
            by_cases hlt : k < nF
            · have HMX := Lib.hid hmx
              have HPF := Lib.hid hp
              have HWKF := Lib.hid hwk
              have hkz : (k : Int) < (nF : Int) := by omega
              have HK := Lib.hid hlt
              clear hmx hp hwk hk hlt
              go_wp2_with fail
              go_loopw [7] (fun j wx => InF B name ts fields (.slice a1 nT c1) (.slice a2 nF c2) tm w k j wx) (fun j _ => (intOf j).toNat)
              case atStart => exact insF_start (by rw [HNF.out]; exact HK.out) HPF.out HWKF.out HMX.out
              case round =>
                obtain ⟨A, x, C, D, rfl, hI, hmi⟩ := hrel
                rename World => wi
                obtain ⟨d0, d1, d2, d3⟩ := hmi.cells
                have hlen : (A ++ x :: (C ++ D)).length = nF := hI.pm.length_eq.trans HNF.out
                rcases List.eq_nil_or_concat A with rfl | ⟨A', y, hA⟩
                · have hd : decide ((0 : Nat) < 0) = false := by decide
                  have HMI := Lib.hid hmi
                  have HI := Lib.hid hI
                  clear hmi hI hlen
                  go_wp2_with fail
                  go_quiet (fail)
                  go_wp2_with fail
                  refine ⟨HOUTF.out _ _ _ _ _ _ HK.out HI.out (by rw [List.nil_append]; exact HI.out.stop0) (HMI.out.later (below_drewN (Below.refl _ _) _)), ?_⟩
                  simp [intOf]; omega
                · rw [List.concat_eq_append] at hA
                  subst hA
                  obtain ⟨p, hpl⟩ : ∃ p, A'.length = p := ⟨_, rfl⟩
                  obtain ⟨q, hq⟩ : ∃ q, (A' ++ [y]).length = q := ⟨_, rfl⟩
                  have hqp : q = p + 1 := by rw [← hq, ← hpl]; simp
                  rw [hq]
                  obtain ⟨g, cap', hv, _, hlg⟩ := hmi.rf.form (by rw [hlen]; omega)
                  injection hv with hv hv1 hv2
                  clear hv1 hv2
                  subst hv
                  have hqn : q < nF := by
                    have := hlen
                    simp at this hq
                    omega
                  obtain ⟨k0, k1⟩ := fE_mid (y := y) (x := x) (Z := C ++ D) hpl hqp
                  obtain ⟨g0, _⟩ := hmi.field hlen (show p < nF by omega)
                  obtain ⟨g1, _⟩ := hmi.field hlen hqn
                  rw [k0] at g0
                  rw [k1] at g1
                  have hq0 : (1 : Int) ≤ (q : Int) := by omega
                  have hq1 : (q : Int) - 1 < (nF : Int) := by omega
                  have hq2 : ((q : Int) - 1).toNat = p := by omega
                  have hq3 : IntKind.i64.wrap ((q : Int) - 1) = (q : Int) - 1 := IntWalk.i64_in _ (by omega)
                  have hq4 : (q : Int) < (nF : Int) := by omega
                  have hd : decide (0 < q) = true := by simp; omega
                  have HMI := Lib.hid hmi
                  have HI := Lib.hid hI
                  have HQ := Lib.hid hqp
                  have HPL := Lib.hid hpl
                  have HLEN := Lib.hid hlen
                  have HQN := Lib.hid hqn
                  have HHQ := Lib.hid hq
                  clear hmi hI hlen hq hqp hpl hqn k0 k1
                  by_cases hgt : y.1.data.toList > x.1.data.toList
                  · obtain ⟨b1, b2⟩ := gt_yes hgt
                    have HGT := Lib.hid hgt
                    clear hgt
                    go_wp2_with fail
                    go_quiet (fail)
                    go_upto_region 17 with (fail)
                    refine wp_gen (fun wx => SMem B name ts (A' ++ [y] ++ x :: (C ++ D)) _ _ tm w wx) (HMI.out.later (below_drewN (Below.refl _ _) _)) ?_
                    clear g0 g1 d0 d1 d2 d3
                    intro wj hmj
                    obtain ⟨d0, d1, d2, d3⟩ := hmj.cells
                    obtain ⟨g0, g1, g2, g3, g4, g5, g6, g7⟩ := hmj.field HLEN.out (show p < nF by have := HQ.out; have := HQN.out; omega)
                    obtain ⟨s0, s1, s2, s3, s4, s5, s6, s7⟩ := hmj.field HLEN.out HQN.out
                    obtain ⟨k0, k1⟩ := fE_mid (y := y) (x := x) (Z := C ++ D) HPL.out HQ.out
                    rw [k0] at g0 g1 g2 g3
                    rw [k1] at s0 s1 s2 s3
                    have n1 : ¬ g = w.heap.size := by have := hmj.lf g rfl; omega
                    have n2 : ¬ w.heap.size = g := by have := hmj.lf g rfl; omega
                    have HMJ := Lib.hid hmj
                    clear hmj k0 k1
                    go_region
                    go_upto_region 16 with (fail)
                    refine wp_gen (fun wx => SMem B name ts (A' ++ x :: (y :: (C ++ D))) _ _ tm w wx) ((HMJ.out.swapF HLEN.out HPL.out HQ.out).later (Below.refl _ _).drew) ?_
                    clear g0 g1 g2 g3 g4 g5 g6 g7 s0 s1 s2 s3 s4 s5 s6 s7 d0 d1 d2 d3
                    intro wk hmk
                    have HMK := Lib.hid hmk
                    clear hmk
                    go_wp2_with fail
                    refine ⟨⟨A', x, y :: C, D, ?_, HI.out.swap HGT.out, HMK.out⟩, ?_⟩
                    · rw [HPL.out, HQ.out]; go_num
                    · simp [intOf]; omega
                  · rcases gt_no hgt with b1 | ⟨b1, b2⟩
                    · have HGT := Lib.hid hgt
                      clear hgt
                      go_wp2_with fail
                      go_quiet (fail)
                      go_wp2_with fail
                      refine ⟨HOUTF.out _ _ _ _ _ _ HK.out HI.out (HI.out.stop HGT.out) (HMI.out.later (below_drewN (Below.refl _ _) _)), ?_⟩
                      simp [intOf]; omega
                    · have HGT := Lib.hid hgt
                      clear hgt
                      go_wp2_with fail
                      go_quiet (fail)
                      go_wp2_with fail
                      refine ⟨HOUTF.out _ _ _ _ _ _ HK.out HI.out (HI.out.stop HGT.out) (HMI.out.later (below_drewN (Below.refl _ _) _)), ?_⟩
                      simp [intOf]; omega
            · have HPF := Lib.hid hp
              have hke3 : k = nF := by omega
              have hwf : Weak keyF fs := by
                have := hp.length_eq.trans HNF.out
                rw [hke3, List.take_of_length_le (by omega)] at hwk
                exact hwk
              have HWKF := Lib.hid hwf
              have HMF := Lib.hid hmx
              obtain ⟨d0, d1, d2, d3⟩ := hmx.cells
              have hke4 : ¬ (k : Int) < (nF : Int) := by omega
              clear hp hwk hmx hwf hk hlt hke3
              go_upto_region 19 with (fail)
              have lT : ts.length = nT := HP.out.length_eq.trans HNT.out
              have lF : fs.length = nF := HPF.out.length_eq.trans HNF.out
              have hrt := HMF.out.rt
              have hrf := HMF.out.rf
              rw [← lT] at hrt
              rw [← lF] at hrf
              have MF := formed60 name a1 a2 ts.length c1 c2 tm (kOf ts) (vOf ts) fs wo2 (by omega) (by omega) HN1.out (tags_sized HP.out HN2.out) (fun p h => HN3.out p (HPF.out.mem_iff.1 h)) hrt.at hrf.at
              obtain ⟨hrow, heq⟩ := rowOk_of (name := name) HP.out HWK.out HPF.out HWKF.out
              rw [hrow, lT, lF] at MF
              have HEQ := Lib.hid heq
              obtain ⟨ok, hok2⟩ : ∃ ok, rowOk name (srt keyT tags) (srt keyF fields) = ok := ⟨_, rfl⟩
              rw [hok2] at MF HEQ
              have HMFF := Lib.hid MF
              have HRR : Hid (R = if ok = true then (0, some (name, srt keyT tags, srt keyF fields, tm)) else (2, none)) := Lib.hid (by rw [← HR.out]; unfold finP; rw [if_pos rfl, hok2])
              clear lT lF hrt hrf hrow heq hok2 MF
              go_wp2_with fail
              refine HMFF.out.mono ?_
              rintro e w4 ⟨rfl, hb4⟩
              have hm4 := HMF.out.later hb4
              clear d0 d1 d2 d3
              obtain ⟨d0, d1, d2, d3⟩ := hm4.cells
              obtain ⟨q0, q1, q2, q3, z0, z1, z2, z3⟩ := hm4.rcells
              have HM4 := Lib.hid hm4
              clear hb4 hm4
              cases ok with
              | true =>
                go_wp2_with fail
                refine bodyPost_ret (results38 rfl (four _ _ _ _ HM4.out.res)) rfl (HM4.out.out _ _ _ _ (by rw [HRR.out]; rfl) ?_)
                rw [HRR.out]
                exact ⟨rfl, (HEQ.out (by trivial)).1.symm, (HEQ.out (by trivial)).2.symm⟩
              | false =>
                go_wp2_with fail
                refine bodyPost_ret (results38 rfl (four _ _ _ _ HM4.out.res)) rfl (HM4.out.out _ _ _ _ (by rw [HRR.out]; rfl) ?_)
                rw [HRR.out]; rfl
end Go.Proofs.YtagiddbfhlokcaaGreatDoor.Ser
/- Reading a line by the program: the walk of the fields. Conditions: the text's length; the readers of values. -/
namespace Go.Proofs.YtagiddbfhlokcaaGreatDoor.Ser
open Go.RowKit Go.Sort
set_option maxRecDepth 100000
/-- The readers of values and of integers, wherever the tables lie as they did. -/
structure Readers (V : List UInt8 → Value × Int) (w : World) : Prop where
  v : ∀ l, l.length ≤ 140737488355328 → ∀ w2, Below w.heap.size w w2 → Calls Tryz.prog 22 #[.string (bs l)] w2 fun e w' => e = .returned (.tuple #[(V l).1, .int .i64 (V l).2]) ∧ Below w2.heap.size w2 w'
  i : ∀ l, l.length ≤ 140737488355328 → ∀ w2, Below w.heap.size w w2 → Calls Tryz.prog 43 #[.string (bs l)] w2 fun e w' => e = .returned (.tuple #[.int .i64 (PF.intP l).1, .int .i64 (PF.intP l).2]) ∧ Below w2.heap.size w2 w'
  f : ∀ l, ∃ k b t n, V l = (val k b t, n) ∧ 0 ≤ b ∧ b < 18446744073709551616
theorem rets_jumps {R : LR} {w : World} {Q : Exit → Act → World → Prop} {J : Nat → Act → World → Prop} (h : Rets R w Q) : Rets R w (Jumps J Q) := h
set_option maxHeartbeats 8000000 in
theorem pass_field {V : List UInt8 → Value × Int} {now : Int} {L : Nat} (hL : L ≤ 1073741824) {R : LR} {w : World} (HV : Readers V w) {m : Nat} {J : Nat → Act → World → Prop} {Q : Exit → Act → World → Prop} (hret : Rets R w Q)
    (hj0 : ∀ a w', JWrong R w a w' → J 0 a w') (hj1 : ∀ a w' m', m' < m → JField V now L R w m' a w' → J 1 a w') (hj3 : ∀ a w', JEnd L R w a w' → J 3 a w') (rest : Code)
    (hr : (Tryz.f15.body.bind firstScope).bind (findLabel · 1) = some (Code.skip.seq rest)) (a : Act) (wr : World) (hJ : JField V now L R w m a wr) : rest.wp Tryz.prog (Jumps J Q) a wr := by
  change some _ = some _ at hr
  cases hr
  obtain ⟨⟨hd0, hsz, g4, g6, g10⟩, g11, name, tags, fields, v, vf, c, r, n, g0, hm, ⟨hn1, hn2, hn3, hn4, hn5⟩, hlen, hrn, hrm, hR⟩ := hJ
  obtain ⟨fr, rfl, hf⟩ := frame_of166 a hsz hd0
  rw [hf] at g4 g6 g10 g11 g0
  rw [g4, g6, g10, g11, g0]
  obtain ⟨hlt, hg, hem, h0i, h1i, htl⟩ := bs_head (r := c :: r) rfl
  obtain ⟨n, rfl⟩ : ∃ k, n = k + 1 := ⟨n - 1, by omega⟩
  have M39 := Lib.hid (fun w => cut39 r w (by omega))
  have HM := Lib.hid hm
  have HR := Lib.hid hR
  have HRET := Lib.hid hret
  have HJ0 := Lib.hid hj0
  have HJ1 := Lib.hid hj1
  have HJ3 := Lib.hid hj3
  have HVV := Lib.hid HV
  have HN2 := Lib.hid hn2
  have HN3 := Lib.hid hn3
  clear hf hsz hd0 hR hret hj0 hj1 hj3 HV hm hn2 hn3 hg
  go_wp2_with fail
  refine (M39.out _).mono ?_
  intro e w1 hcp
  obtain ⟨b, s1, ok, rfl, hy, hno, hb1⟩ := cutPost_cases hcp
  have hm1 := HM.out.later hb1
  have HM1 := Lib.hid hm1
  clear hcp hb1 hm1 hlt hem h0i h1i htl
  cases ok with
  | false =>
    have HP : Hid (R = (2, none)) := Lib.hid (by rw [HR.out, fp_none (hno rfl), finP_err (by decide)])
    clear hy hno
    go_wp2_with fail
    go_step3
    refine HJ0.out _ _ ?_
    exact ⟨⟨rfl, rfl, rfl, rfl, rfl⟩, 2, rfl, HP.out, HM1.out.res, HM1.out.bel⟩
  | true =>
    obtain ⟨kb, r1, hs, rfl, rfl⟩ := hy rfl
    have hl1 := scan_len _ (Nat.le_refl _) hs
    simp only [List.length_nil, Nat.zero_add] at hl1
    have HS := Lib.hid hs
    have M40 := Lib.hid (fun w => name40 kb (by omega) w)
    obtain ⟨bn, hbn⟩ : ∃ b, nameB kb = b := ⟨_, rfl⟩
    rw [hbn] at M40
    have HBN := Lib.hid hbn
    obtain ⟨bq, hbq⟩ : ∃ b, headIs 61 r1 = b := ⟨_, rfl⟩
    have M41 := Lib.hid (fun w => hasP r1 61 w)
    rw [hbq] at M41
    have HBQ := Lib.hid hbq
    clear hy hno hs hbn hbq
    cases bn with
    | false =>
      have HP : Hid (R = (2, none)) := Lib.hid (by rw [HR.out, fp_bad HS.out (by rw [HBN.out]; rfl), finP_err (by decide)])
      go_wp2_with fail
      refine (M40.out _).mono ?_
      rintro e w2 ⟨rfl, hb2⟩
      have HM2 := Lib.hid (HM1.out.later hb2)
      clear hb2
      go_wp2_with fail
      go_step3
      refine HJ0.out _ _ ?_
      exact ⟨⟨rfl, rfl, rfl, rfl, rfl⟩, 2, rfl, HP.out, HM2.out.res, HM2.out.bel⟩
    | true =>
      cases bq with
      | false =>
        have HP : Hid (R = (2, none)) := Lib.hid (by rw [HR.out, fp_bad HS.out (by rw [HBQ.out, Bool.and_false]), finP_err (by decide)])
        go_wp2_with fail
        refine (M40.out _).mono ?_
        rintro e w2 ⟨rfl, hb2⟩
        have HM2 := Lib.hid (HM1.out.later hb2)
        clear hb2
        go_wp2_with fail
        refine (M41.out _).mono ?_
        rintro e w' ⟨rfl, rfl⟩
        go_wp2_with fail
        go_step3
        refine HJ0.out _ _ ?_
        exact ⟨⟨rfl, rfl, rfl, rfl, rfl⟩, 2, rfl, HP.out, HM2.out.res, HM2.out.bel⟩
      | true =>
        obtain ⟨r2, rfl⟩ : ∃ r2, r1 = 61 :: r2 := by
          have := HBQ.out
          rcases list_cases r1 with e | ⟨c, t, e⟩
          · rw [e] at this; cases this
          · rw [e] at this
            simp only [headIs, decide_eq_true_eq] at this
            exact ⟨t, by rw [e, this]⟩
        simp only [List.length_cons] at hl1
        have HSB : Hid ((nameB kb && headIs 61 (61 :: r2)) = true) := Lib.hid (by rw [HBN.out]; rfl)
        obtain ⟨hlt, hg, hem, h0i, h1i, htl⟩ := bs_head (r := 61 :: r2) rfl
        have M42 := Lib.hid (fun w => cutv42 r2 (by omega) w)
        go_wp2_with fail
        refine (M40.out _).mono ?_
        rintro e w2 ⟨rfl, hb2⟩
        have HM2 := Lib.hid (HM1.out.later hb2)
        clear hb2
        go_wp2_with fail
        refine (M41.out _).mono ?_
        rintro e w' ⟨rfl, rfl⟩
        go_wp2_with fail
        refine (M42.out _).mono ?_
        rintro e w3 ⟨hb3, hcv⟩
        have HM3 := Lib.hid (HM2.out.later hb3)
        clear hb3 hlt hg hem h0i h1i htl
        obtain ⟨ve, hve⟩ : ∃ ve, vEnd r2 = ve := ⟨_, rfl⟩
        rw [hve] at hcv
        have HVE := Lib.hid hve
        clear hve
        cases ve with
        | none =>
          obtain ⟨sa, sb, rfl⟩ := hcv
          have HP : Hid (R = (2, none)) := Lib.hid (by rw [HR.out, fp_noend HS.out HSB.out HVE.out, finP_err (by decide)])
          go_wp2_with fail
          go_step3
          refine HJ0.out _ _ ?_
          exact ⟨⟨rfl, rfl, rfl, rfl, rfl⟩, 2, rfl, HP.out, HM3.out.res, HM3.out.bel⟩
        | some q =>
          simp only at hcv
          subst hcv
          have hq := vEnd_le HVE.out
          obtain ⟨vk, vb, vt, er, hval, hvb⟩ := HVV.out.f (r2.take q)
          have M22 := Lib.hid (HVV.out.v (r2.take q) (by rw [List.length_take]; omega) w3 HM3.out.bel)
          rw [hval] at M22
          unfold val at M22
          simp only at M22
          have HVAL : Hid (V ((61 :: r2).tail.take q) = (val vk vb vt, er)) := Lib.hid hval
          have HVB := Lib.hid hvb
          obtain ⟨rd, hrd⟩ : ∃ rd, r2.drop q = rd := ⟨_, rfl⟩
          have hrl : rd.length ≤ r2.length := by rw [← hrd, List.length_drop]; omega
          have HRD := Lib.hid hrd
          rw [hrd]
          clear hval hvb hrd hq
          go_wp2_with fail
          refine M22.out.mono ?_
          rintro e w4 ⟨rfl, hb4⟩
          have hm4 := HM3.out.later hb4
          have HM4 := Lib.hid hm4
          obtain ⟨k0, b0, t0, v0, v1, v2, z0, z1, z2⟩ := hm4.vcells
          have hm5 := hm4.setVal vk vb vt
          have HM5 := Lib.hid hm5
          clear hb4 hm4 hm5
          by_cases her : er = 0
          · subst her
            have HG5 := Lib.hid ((HM4.out).setVal_at vk vb vt)
            have HRR : Hid (R = finP name tags (nextP V now n fields (fields ++ [(ofL kb, vk, vb, vt)]) rd)) := Lib.hid (by
                rw [HR.out, fp_ok HS.out HSB.out HVE.out (by rw [HVAL.out]), HVAL.out, valF_val, List.tail_cons, HRD.out])
            go_upto_region 24 with (fail)
            refine wp_gen (fun wx => PMem name tags fields v vf now w wx ∧ wx.heap[w.heap.size + 2]? = some (.cells #[.int .i64 vk, .int .u64 vb, .string vt] 53 (0, 0))) ⟨HM5.out, HG5.out⟩ ?_
            clear HM5 HG5 HM4 v0 v1 v2 z0 z1 z2
            rintro w5 ⟨hm5, hg5⟩
            have HM5 := Lib.hid hm5
            obtain ⟨d0, d1, d2, d3⟩ := hm5.cells
            have v0 : w5.cell? ⟨w.heap.size + 2, 0, none⟩ = some (.int .i64 vk) := Lib.cell_of_heap hg5 0
            have v1 : w5.cell? ⟨w.heap.size + 2, 1, none⟩ = some (.int .u64 vb) := Lib.cell_of_heap hg5 1
            have v2 : w5.cell? ⟨w.heap.size + 2, 2, none⟩ = some (.string vt) := Lib.cell_of_heap hg5 2
            obtain ⟨fa, fc, hvf⟩ := hm5.rf.slice
            subst hvf
            have hsz5 := hm5.size
            obtain ⟨i0, hi, hz0, hz1, hz2⟩ := info_parts info64
            have HI := Lib.hid hi
            have HZ0 := Lib.hid hz0
            have HZ1 := Lib.hid hz1
            have HZ2 := Lib.hid hz2
            clear hi hz0 hz1 hz2 hm5 hg5
            go_upto_region 25 with ((at_builtin; go_must (refine wpList_append_own_at _ rfl (.tmp 130) (.tmp 134) 25 rfl (w.heap.size + 3) 64 i0 _ 4 48 Tryz.underlying25 HI.out HZ0.out HZ1.out HZ2.out rfl (by omega) _ fields.length _ rfl (World.ownsRow.alloc HM5.out.rf _) ⟨w5.heap.size, 0, none⟩ 1 1 [.string (ofL kb), .int .i64 vk, .int .u64 vb, .string vt] rfl rfl (World.news_of_block (cs := #[.string (ofL kb), .int .i64 vk, .int .u64 vb, .string vt]) (t := 64) (fr := (0, 0)) (heap_alloc_new w5 _)) (by simp [Value.oneCell']) (by unfold maxLen; omega) (by omega) (by simp; omega) ?_); intro vn w6 hown1 hgrow1 hnn hat; clear hnn; obtain ⟨gv, cv, rfl, _, _⟩ := hown1.form (by omega); have hg6 := HM5.out.grownF hgrow1; have d6 : w6.cell? ⟨w.heap.size + 1, 2, none⟩ = some (.slice fa fields.length fc) := (Lib.cell_of_heap hg6.2.1 2); have z6 : w6.frozen? ⟨w.heap.size + 1, 2, none⟩ = false := (Lib.frozen_of_heap hg6.2.1 2); have HMA := Lib.hid (HM5.out.appendF (p := (ofL kb, vk, vb, vt)) hgrow1 hat hown1 rfl rfl); clear hown1 hgrow1 hat hg6))
            refine wp_gen (fun wx => PMem name tags (fields ++ [(ofL kb, vk, vb, vt)]) v (.slice (some ⟨gv, 0, none⟩) (fields.length + 1) cv) now w wx) HMA.out ?_
            clear HMA d6 z6 d0 d1 d2 d3 v0 v1 v2 hsz5 HM5
            intro w7 hm7
            have HM7 := Lib.hid hm7
            have HOK : Hid (Okay L name tags (fields ++ [(ofL kb, vk, vb, vt)])) := Lib.hid ⟨hn1, HN2.out, fun p hp => by
              rcases List.mem_append.1 hp with hp | hp
              · exact HN3.out p hp
              · simp at hp
                subst hp
                exact ⟨name_sized HBN.out, HVB.out⟩, hn4, by simp; omega⟩
            rcases list_cases rd with hrd | ⟨c2, r3, hrd⟩
            · have he0 := bs_nil hrd
              have HP : Hid (R = finP name tags (0, fields ++ [(ofL kb, vk, vb, vt)], now)) := Lib.hid (by rw [HRR.out, hrd]; rfl)
              clear hrd hm7
              go_wp2_with fail
              go_step3
              refine HJ3.out _ _ ?_
              exact ⟨⟨rfl, rfl, rfl, rfl, rfl⟩, rfl, _, _, _, _, _, _, HM7.out, HOK.out, HP.out⟩
            · obtain ⟨hlt, hg, hem, h0i, h1i, htl⟩ := bs_head hrd
              have hl3 : r3.length + 1 = rd.length := by rw [hrd]; rfl
              by_cases h44 : c2 = 44
              · have c44 : ((c2.toNat : Int) == 44) = true := byte_eq c2 44 (by decide) h44
                have HP : Hid (R = finP name tags (fieldsP V now n (fields ++ [(ofL kb, vk, vb, vt)]) r3)) := Lib.hid (by rw [HRR.out, hrd, nextP, if_pos h44])
                have HRDD := Lib.hid hrd
                clear hrd hm7 h44 htl
                go_wp2_with fail
                go_step3
                refine HJ1.out _ _ r3.length (by omega) ?_
                exact ⟨⟨rfl, rfl, rfl, rfl, rfl⟩, rfl, name, tags, _, v, _, c2, r3, n, by rw [← HRDD.out]; rfl, HM7.out, HOK.out, by simp; omega, by omega, Nat.le_refl _, HP.out⟩
              · have c44 : ((c2.toNat : Int) == 44) = false := byte_ne c2 44 (by decide) h44
                by_cases h32 : c2 = 32
                · have c32 : ((c2.toNat : Int) != 32) = false := by rw [h32]; rfl
                  have HP : Hid (R = finP name tags ((PF.intP r3).2, fields ++ [(ofL kb, vk, vb, vt)], (PF.intP r3).1)) := Lib.hid (by rw [HRR.out, hrd, nextP, if_neg h44, if_pos h32])
                  have M43 := Lib.hid (HVV.out.i r3 (by omega) w7 hm7.bel)
                  obtain ⟨x, hx⟩ : ∃ x, PF.intP r3 = x := ⟨_, rfl⟩
                  rw [hx] at M43 HP
                  obtain ⟨tv, er⟩ := x
                  simp only at M43 HP
                  clear hrd hm7 h44 h32 hx
                  go_wp2_with fail
                  refine M43.out.mono ?_
                  rintro e w8 ⟨rfl, hb8⟩
                  have hm8 := HM7.out.later hb8
                  obtain ⟨d0, d1, d2, d3⟩ := hm8.cells
                  obtain ⟨z0, z1, z2, z3⟩ := hm8.frees
                  have HM8 := Lib.hid (hm8.setTime tv)
                  clear hb8 hm8
                  by_cases her : er = 0
                  · subst her
                    go_wp2_with fail
                    go_step3
                    rename_i K hK
                    refine hK _ _ (pass_end hL (rets_jumps HRET.out) _ rfl _ _ ?_)
                    exact ⟨⟨rfl, rfl, rfl, rfl, rfl⟩, rfl, _, _, _, _, _, _, HM8.out, HOK.out, HP.out⟩
                  · have hne : (er != 0) = true := by rw [bne_iff_ne]; exact her
                    have HP2 : Hid (R = (er, none)) := Lib.hid (by rw [HP.out, finP_err her])
                    clear her
                    go_wp2_with fail
                    go_step3
                    refine HJ0.out _ _ ?_
                    exact ⟨⟨rfl, rfl, rfl, rfl, rfl⟩, er, rfl, HP2.out, HM8.out.res, HM8.out.bel⟩
                · have c32 : ((c2.toNat : Int) != 32) = true := byte_bne c2 32 (by decide) h32
                  have HP : Hid (R = (2, none)) := Lib.hid (by rw [HRR.out, hrd, nextP, if_neg h44, if_neg h32, finP_err (by decide)])
                  clear hrd hm7 h44 h32
                  go_wp2_with fail
                  go_step3
                  refine HJ0.out _ _ ?_
                  exact ⟨⟨rfl, rfl, rfl, rfl, rfl⟩, 2, rfl, HP.out, HM7.out.res, HM7.out.bel⟩
          · have hne : (er != 0) = true := by rw [bne_iff_ne]; exact her
            have HP : Hid (R = (er, none)) := Lib.hid (by rw [HR.out, fp_err HS.out HSB.out HVE.out (by rw [HVAL.out]; exact her), HVAL.out, finP_err her])
            clear her
            go_wp2_with fail
            go_step3
            refine HJ0.out _ _ ?_
            exact ⟨⟨rfl, rfl, rfl, rfl, rfl⟩, er, rfl, HP.out, HM5.out.res, HM5.out.bel⟩
end Go.Proofs.YtagiddbfhlokcaaGreatDoor.Ser
/- Reading a line by the program: the tags, and the whole. Conditions: the text's length; the readers of values. -/
namespace Go.Proofs.YtagiddbfhlokcaaGreatDoor.Ser
open Go.RowKit Go.Sort
set_option maxRecDepth 100000
/-- What comes behind a tag. -/
def nextT (n : Nat) (acc' : List Tg) : List UInt8 → Option (List Tg × List UInt8)
  | [] => none
  | c :: r3 => if c = 44 then tagsP n acc' r3 else if c = 32 then some (acc', r3) else none
section
variable {n : Nat} {acc : List Tg} {r kb r1 vb r2 : List UInt8}
theorem tp_none (h : scan [] r = none) : tagsP (n + 1) acc r = none := by unfold tagsP; rw [h]
theorem tp_bad (h : scan [] r = some (kb, r1)) (hb : (nameB kb && headIs 61 r1) = false) : tagsP (n + 1) acc r = none := by unfold tagsP; rw [h]; simp only; rw [hb]; rfl
theorem tp_vnone (h : scan [] r = some (kb, r1)) (hb : (nameB kb && headIs 61 r1) = true) (hv : scan [] r1.tail = none) : tagsP (n + 1) acc r = none := by
  unfold tagsP; rw [h]; simp only; rw [hb, hv]; rfl
theorem tp_vbad (h : scan [] r = some (kb, r1)) (hb : (nameB kb && headIs 61 r1) = true) (hv : scan [] r1.tail = some (vb, r2)) (hn : nameB vb = false) : tagsP (n + 1) acc r = none := by
  unfold tagsP; rw [h]; simp only; rw [hb, hv]; simp only [if_true]; rw [hn]; rfl
theorem tp_ok (h : scan [] r = some (kb, r1)) (hb : (nameB kb && headIs 61 r1) = true) (hv : scan [] r1.tail = some (vb, r2)) (hn : nameB vb = true) : tagsP (n + 1) acc r = nextT n (acc ++ [(ofL kb, ofL vb)]) r2 := by
  rw [tagsP, h]; simp only; rw [hb, hv]; simp only [if_true]; rw [hn]; simp only [if_true]
  cases r2 <;> rfl
end
/-- Behind an append to the tags. -/
theorem PMem.grownT {name : ByteArray} {tags : List Tg} {fields : List Fd} {v vf : Value} {tm : Int} {w wr w' : World} {o : Obj} (h : PMem name tags fields v vf tm w wr) (hg : (wr.alloc o).grownBy w' v.ownBlock) :
    w'.heap[w.heap.size]? = some (.cells #[.string ⟨#[]⟩, .slice none 0 0, .slice none 0 0, .int .i64 0] 27 (0, 0)) ∧ w'.heap[w.heap.size + 1]? = some (.cells #[.string name, v, vf, .int .i64 tm] 27 (0, 0)) ∧ (∃ k b t, w'.heap[w.heap.size + 2]? = some (.cells #[.int .i64 k, .int .u64 b, .string t] 53 (0, 0))) ∧ RF w' (w.heap.size + 3) vf fields ∧ Below w.heap.size w w' := by
  obtain ⟨k, b, t, h3⟩ := h.val
  have l3 := lt_of_block h3
  have ne : ∀ j, j < w.heap.size + 3 → some j ≠ v.ownBlock := fun j hj e => by have := (h.rt.lt j e.symm).1; omega
  have al : ∀ j, j < wr.heap.size → (wr.alloc o).heap[j]? = wr.heap[j]? := fun j hj => Below.heap_alloc wr o _ hj
  refine ⟨(hg.block _ (by simp; omega) (ne _ (by omega))).trans ((al _ (by omega)).trans h.res), (hg.block _ (by simp; omega) (ne _ (by omega))).trans ((al _ (by omega)).trans h.row), ⟨k, b, t, (hg.block _ (by simp; omega) (ne _ (by omega))).trans ((al _ (by omega)).trans h3)⟩, ?_, ?_⟩
  · refine (World.ownsRow.alloc h.rf o).kept hg ?_
    cases hv : vf.ownBlock with
    | none => exact .inl rfl
    | some g => exact .inr fun e => h.ap g e.symm hv
  · exact (h.bel.alloc h.bel.size o).grown hg (by simp; omega) (fun j hj => by have := (h.rt.lt j hj).1; omega)
theorem PMem.appendT {name : ByteArray} {tags : List Tg} {fields : List Fd} {v vf v1 : Value} {tm : Int} {w wr w' : World} {o : Obj} {p : Tg} {n : Nat} {xs : List Value} (h : PMem name tags fields v vf tm w wr) (hg : (wr.alloc o).grownBy w' v.ownBlock)
    (hat : v1.ownBlock = v.ownBlock ∨ v1.ownBlock = some (wr.alloc o).heap.size) (hown : w'.ownsRow (w.heap.size + 3) 82 2 v1 n xs) (hn : n = tags.length + 1) (hx : xs = tags.flatMap encT ++ encT p) :
    PMem name (tags ++ [p]) fields v1 vf tm w (w'.setCell ⟨w.heap.size + 1, 1, none⟩ v1) := by
  obtain ⟨f0, f1, ⟨k, b, t, f2⟩, f3, f4⟩ := h.grownT hg
  subst hn hx
  refine ⟨by rw [Below.heap_setCell _ _ _ _ (by simp)]; exact f0, ?_, ⟨k, b, t, ?_⟩, ?_, ownsRow_setCell_below f3 (by simp) _, ?_, f4.setCell (by simp) _⟩
  · rw [heap_setCell_same _ _ _ _ _ _ f1]; rfl
  · rw [Below.heap_setCell _ _ _ _ (by simp)]; exact f2
  · rw [RT, List.length_append, List.flatMap_append]
    exact ownsRow_setCell_below (by simpa using hown) (by simp) _
  · intro g hv e
    rcases hat with h1 | h1
    · rw [h1] at hv; exact h.ap g hv e
    · rw [h1] at hv
      have := (h.rf.lt g e).2
      injection hv with hv
      simp at hv
      omega
set_option maxHeartbeats 8000000 in
theorem pass_tag {V : List UInt8 → Value × Int} {now : Int} {L : Nat} (hL : L ≤ 1073741824) {R : LR} {w : World} (HV : Readers V w) {m : Nat} {J : Nat → Act → World → Prop} {Q : Exit → Act → World → Prop} (hret : Rets R w Q)
    (hj0 : ∀ a w', JWrong R w a w' → J 0 a w') (hj1 : ∀ a w' m', m' < m → JField V now L R w m' a w' → J 1 a w') (hj2 : ∀ a w' m', m' < m → JTag V now L R w m' a w' → J 2 a w') (hj3 : ∀ a w', JEnd L R w a w' → J 3 a w') (rest : Code)
    (hr : (Tryz.f15.body.bind firstScope).bind (findLabel · 2) = some (Code.skip.seq rest)) (a : Act) (wr : World) (hJ : JTag V now L R w m a wr) : rest.wp Tryz.prog (Jumps J Q) a wr := by
  change some _ = some _ at hr
  cases hr
  obtain ⟨⟨hd0, hsz, g4, g6, g10⟩, g11, name, tags, v, c, r, n, g0, hm, ⟨hn1, hn2, hn3, hn4, hn5⟩, hlen, hrn, hrm, hR⟩ := hJ
  obtain ⟨fr, rfl, hf⟩ := frame_of166 a hsz hd0
  rw [hf] at g4 g6 g10 g11 g0
  rw [g4, g6, g10, g11, g0]
  obtain ⟨hlt, hg, hem, h0i, h1i, htl⟩ := bs_head (r := c :: r) rfl
  obtain ⟨n, rfl⟩ : ∃ k, n = k + 1 := ⟨n - 1, by omega⟩
  have M39 := Lib.hid (fun w => cut39 r w (by omega))
  have HM := Lib.hid hm
  have HR := Lib.hid hR
  have HRET := Lib.hid hret
  have HJ0 := Lib.hid hj0
  have HJ1 := Lib.hid hj1
  have HJ2 := Lib.hid hj2
  have HJ3 := Lib.hid hj3
  have HVV := Lib.hid HV
  have HN2 := Lib.hid hn2
  have HN3 := Lib.hid hn3
  clear hf hsz hd0 hR hret hj0 hj1 hj2 hj3 HV hm hn2 hn3 hg
  go_wp2_with fail
  refine (M39.out _).mono ?_
  intro e w1 hcp
  obtain ⟨b, s1, ok, rfl, hy, hno, hb1⟩ := cutPost_cases hcp
  have hm1 := HM.out.later hb1
  have HM1 := Lib.hid hm1
  clear hcp hb1 hm1 hlt hem h0i h1i htl
  cases ok with
  | false =>
    have HP : Hid (R = (2, none)) := Lib.hid (by rw [HR.out, tp_none (hno rfl)]; rfl)
    clear hy hno
    go_wp2_with fail
    go_step3
    refine HJ0.out _ _ ?_
    exact ⟨⟨rfl, rfl, rfl, rfl, rfl⟩, 2, rfl, HP.out, HM1.out.res, HM1.out.bel⟩
  | true =>
    obtain ⟨kb, r1, hs, rfl, rfl⟩ := hy rfl
    have hl1 := scan_len _ (Nat.le_refl _) hs
    simp only [List.length_nil, Nat.zero_add] at hl1
    have HS := Lib.hid hs
    have M40 := Lib.hid (fun w => name40 kb (by omega) w)
    obtain ⟨bn, hbn⟩ : ∃ b, nameB kb = b := ⟨_, rfl⟩
    rw [hbn] at M40
    have HBN := Lib.hid hbn
    obtain ⟨bq, hbq⟩ : ∃ b, headIs 61 r1 = b := ⟨_, rfl⟩
    have M41 := Lib.hid (fun w => hasP r1 61 w)
    rw [hbq] at M41
    have HBQ := Lib.hid hbq
    clear hy hno hs hbn hbq
    cases bn with
    | false =>
      have HP : Hid (R = (2, none)) := Lib.hid (by rw [HR.out, tp_bad HS.out (by rw [HBN.out]; rfl)]; rfl)
      go_wp2_with fail
      refine (M40.out _).mono ?_
      rintro e w2 ⟨rfl, hb2⟩
      have HM2 := Lib.hid (HM1.out.later hb2)
      clear hb2
      go_wp2_with fail
      go_step3
      refine HJ0.out _ _ ?_
      exact ⟨⟨rfl, rfl, rfl, rfl, rfl⟩, 2, rfl, HP.out, HM2.out.res, HM2.out.bel⟩
    | true =>
      cases bq with
      | false =>
        have HP : Hid (R = (2, none)) := Lib.hid (by rw [HR.out, tp_bad HS.out (by rw [HBQ.out, Bool.and_false])]; rfl)
        go_wp2_with fail
        refine (M40.out _).mono ?_
        rintro e w2 ⟨rfl, hb2⟩
        have HM2 := Lib.hid (HM1.out.later hb2)
        clear hb2
        go_wp2_with fail
        refine (M41.out _).mono ?_
        rintro e w' ⟨rfl, rfl⟩
        go_wp2_with fail
        go_step3
        refine HJ0.out _ _ ?_
        exact ⟨⟨rfl, rfl, rfl, rfl, rfl⟩, 2, rfl, HP.out, HM2.out.res, HM2.out.bel⟩
      | true =>
        obtain ⟨r2, rfl⟩ : ∃ r2, r1 = 61 :: r2 := by
          have := HBQ.out
          rcases list_cases r1 with e | ⟨c, t, e⟩
          · rw [e] at this; cases this
          · rw [e] at this
            simp only [headIs, decide_eq_true_eq] at this
            exact ⟨t, by rw [e, this]⟩
        simp only [List.length_cons] at hl1
        have HSB : Hid ((nameB kb && headIs 61 (61 :: r2)) = true) := Lib.hid (by rw [HBN.out]; rfl)
        obtain ⟨hlt, hg, hem, h0i, h1i, htl⟩ := bs_head (r := 61 :: r2) rfl
        have M39b := Lib.hid (fun w => cut39 r2 w (by omega))
        go_wp2_with fail
        refine (M40.out _).mono ?_
        rintro e w2 ⟨rfl, hb2⟩
        have HM2 := Lib.hid (HM1.out.later hb2)
        clear hb2
        go_wp2_with fail
        refine (M41.out _).mono ?_
        rintro e w' ⟨rfl, rfl⟩
        go_wp2_with fail
        refine (M39b.out _).mono ?_
        intro e w3 hcp
        obtain ⟨b, s3, ok, rfl, hy, hno, hb3⟩ := cutPost_cases hcp
        have HM3 := Lib.hid (HM2.out.later hb3)
        clear hcp hb3 hlt hg hem h0i h1i htl
        cases ok with
        | false =>
          have HP : Hid (R = (2, none)) := Lib.hid (by rw [HR.out, tp_vnone HS.out HSB.out (hno rfl)]; rfl)
          clear hy hno
          go_wp2_with fail
          go_step3
          refine HJ0.out _ _ ?_
          exact ⟨⟨rfl, rfl, rfl, rfl, rfl⟩, 2, rfl, HP.out, HM3.out.res, HM3.out.bel⟩
        | true =>
          obtain ⟨vb, rd, hs2, rfl, rfl⟩ := hy rfl
          have hl2 := scan_len _ (Nat.le_refl _) hs2
          simp only [List.length_nil, Nat.zero_add] at hl2
          have HS2 : Hid (scan [] (61 :: r2).tail = some (vb, rd)) := Lib.hid hs2
          have M40b := Lib.hid (fun w => name40 vb (by omega) w)
          obtain ⟨bn, hbn⟩ : ∃ b, nameB vb = b := ⟨_, rfl⟩
          rw [hbn] at M40b
          have HBN2 := Lib.hid hbn
          clear hy hno hs2 hbn
          cases bn with
          | false =>
            have HP : Hid (R = (2, none)) := Lib.hid (by rw [HR.out, tp_vbad HS.out HSB.out HS2.out HBN2.out]; rfl)
            go_wp2_with fail
            refine (M40b.out _).mono ?_
            rintro e w4 ⟨rfl, hb4⟩
            have HM4 := Lib.hid (HM3.out.later hb4)
            clear hb4
            go_wp2_with fail
            go_step3
            refine HJ0.out _ _ ?_
            exact ⟨⟨rfl, rfl, rfl, rfl, rfl⟩, 2, rfl, HP.out, HM4.out.res, HM4.out.bel⟩
          | true =>
            have HRR : Hid (R = tagsR V now L name (nextT n (tags ++ [(ofL kb, ofL vb)]) rd)) := Lib.hid (by rw [HR.out, tp_ok HS.out HSB.out HS2.out HBN2.out])
            rcases list_cases rd with hrd | ⟨c2, r3, hrd⟩
            · have he0 := bs_nil hrd
              have HP : Hid (R = (2, none)) := Lib.hid (by rw [HRR.out, hrd]; rfl)
              clear hrd
              go_wp2_with fail
              refine (M40b.out _).mono ?_
              rintro e w4 ⟨rfl, hb4⟩
              have HM4 := Lib.hid (HM3.out.later hb4)
              clear hb4
              go_wp2_with fail
              go_step3
              refine HJ0.out _ _ ?_
              exact ⟨⟨rfl, rfl, rfl, rfl, rfl⟩, 2, rfl, HP.out, HM4.out.res, HM4.out.bel⟩
            · obtain ⟨hlt, hg, hem, h0i, h1i, htl⟩ := bs_head hrd
              have hl3 : r3.length + 1 = rd.length := by rw [hrd]; rfl
              have HRD := Lib.hid hrd
              clear htl hrd
              go_wp2_with fail
              refine (M40b.out _).mono ?_
              rintro e w4 ⟨rfl, hb4⟩
              have hm4 := HM3.out.later hb4
              have HM4 := Lib.hid hm4
              clear hb4
              obtain ⟨d0, d1, d2, d3⟩ := hm4.cells
              obtain ⟨fa, fc, hvf⟩ := hm4.rt.slice
              subst hvf
              have hsz5 := hm4.size
              obtain ⟨i0, hi, hz0, hz1, hz2⟩ := info_parts info82
              have HI := Lib.hid hi
              have HZ0 := Lib.hid hz0
              have HZ1 := Lib.hid hz1
              have HZ2 := Lib.hid hz2
              clear hi hz0 hz1 hz2 hm4
              go_upto_region 15 with ((at_builtin; go_must (refine wpList_append_own_at _ rfl (.tmp 80) (.tmp 84) 22 rfl (w.heap.size + 3) 82 i0 _ 2 32 Tryz.underlying22 HI.out HZ0.out HZ1.out HZ2.out rfl (by omega) _ tags.length _ rfl (World.ownsRow.alloc HM4.out.rt _) ⟨w4.heap.size, 0, none⟩ 1 1 [.string (ofL kb), .string (ofL vb)] rfl rfl (World.news_of_block (cs := #[.string (ofL kb), .string (ofL vb)]) (t := 82) (fr := (0, 0)) (heap_alloc_new w4 _)) (by simp [Value.oneCell']) (by unfold maxLen; omega) (by omega) (by simp; omega) ?_); intro vn w6 hown1 hgrow1 hnn hat; clear hnn; obtain ⟨gv, cv, rfl, _, _⟩ := hown1.form (by omega); have hg6 := HM4.out.grownT hgrow1; have d6 : w6.cell? ⟨w.heap.size + 1, 1, none⟩ = some (.slice fa tags.length fc) := (Lib.cell_of_heap hg6.2.1 1); have z6 : w6.frozen? ⟨w.heap.size + 1, 1, none⟩ = false := (Lib.frozen_of_heap hg6.2.1 1); have HMA := Lib.hid (HM4.out.appendT (p := (ofL kb, ofL vb)) hgrow1 hat hown1 rfl rfl); clear hown1 hgrow1 hat hg6))
              refine wp_gen (fun wx => PMem name (tags ++ [(ofL kb, ofL vb)]) [] (.slice (some ⟨gv, 0, none⟩) (tags.length + 1) cv) (.slice none 0 0) now w wx) HMA.out ?_
              clear HMA d6 z6 d0 d1 d2 d3 hsz5 HM4
              intro w7 hm7
              have HM7 := Lib.hid hm7
              have HOK : Hid (Okay L name (tags ++ [(ofL kb, ofL vb)]) []) := Lib.hid ⟨hn1, fun p hp => by
                rcases List.mem_append.1 hp with hp | hp
                · exact HN2.out p hp
                · simp at hp
                  subst hp
                  exact ⟨name_sized HBN.out, name_sized HBN2.out⟩, (fun p hp => nomatch hp), by simp; omega, Nat.zero_le _⟩
              clear hm7
              by_cases h44 : c2 = 44
              · have c44 : ((c2.toNat : Int) == 44) = true := byte_eq c2 44 (by decide) h44
                have HP : Hid (R = tagsR V now L name (tagsP n (tags ++ [(ofL kb, ofL vb)]) r3)) := Lib.hid (by rw [HRR.out, HRD.out, nextT, if_pos h44])
                clear h44
                go_wp2_with fail
                go_step3
                refine HJ2.out _ _ r3.length (by omega) ?_
                exact ⟨⟨rfl, rfl, rfl, rfl, rfl⟩, rfl, name, _, _, c2, r3, n, by rw [← HRD.out]; rfl, HM7.out, HOK.out, by simp; omega, by omega, Nat.le_refl _, HP.out⟩
              · have c44 : ((c2.toNat : Int) == 44) = false := byte_ne c2 44 (by decide) h44
                by_cases h32 : c2 = 32
                · have c32 : ((c2.toNat : Int) != 32) = false := by rw [h32]; rfl
                  have HP : Hid (R = finP name (tags ++ [(ofL kb, ofL vb)]) (fieldsP V now L [] r3)) := Lib.hid (by rw [HRR.out, HRD.out, nextT, if_neg h44, if_pos h32]; rfl)
                  clear h44 h32
                  go_wp2_with fail
                  go_step3
                  rename_i K hK
                  refine hK _ _ (pass_field hL HVV.out (m := m) HRET.out HJ0.out HJ1.out HJ3.out _ rfl _ _ ?_)
                  exact ⟨⟨rfl, rfl, rfl, rfl, rfl⟩, rfl, name, _, [], _, _, c2, r3, L, by rw [← HRD.out]; rfl, HM7.out, HOK.out, by simp; omega, by omega, by omega, HP.out⟩
                · have c32 : ((c2.toNat : Int) != 32) = true := byte_bne c2 32 (by decide) h32
                  have HP : Hid (R = (2, none)) := Lib.hid (by rw [HRR.out, HRD.out, nextT, if_neg h44, if_neg h32]; rfl)
                  clear h44 h32
                  go_wp2_with fail
                  go_step3
                  refine HJ0.out _ _ ?_
                  exact ⟨⟨rfl, rfl, rfl, rfl, rfl⟩, 2, rfl, HP.out, HM7.out.res, HM7.out.bel⟩
end Go.Proofs.YtagiddbfhlokcaaGreatDoor.Ser
