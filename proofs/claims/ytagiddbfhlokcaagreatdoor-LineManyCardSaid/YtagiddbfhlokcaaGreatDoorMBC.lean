/- Several texts of this proof, laid together. Conditions: as each says. -/
import Derived.Test.YtagiddbfhlokcaaGreatDoorMBB
import Derived.Laws.RangeAny
import Derived.Laws.Runes
import Derived.Lib.DecodeN
import Derived.Lib.IndexAny
import Derived.WalkMore
import Derived.Lib.OthersKept
import Derived.Test.YtagiddbfhlokcaaGreatDoorMAM
import Derived.Test.YtagiddbfhlokcaaGreatDoorMAD
import Derived.Test.YtagiddbfhlokcaaGreatDoorMAC
import Derived.Lib.AtoiErrMem
/- strings.IndexAny at a comma and a blank, whatever the bytes; a value's text cut off a line. Condition: the text's length. -/
namespace Go.Proofs.YtagiddbfhlokcaaGreatDoor.Ser
open Go.RowKit Go.Sort
set_option maxRecDepth 100000
theorem dec_high (n b0 b1 b2 b3 : Nat) (hn : 1 ≤ n) (h0 : 128 ≤ b0) : (128 ≤ (Lib.decodeN n b0 b1 b2 b3).1 ∧ (Utf8.valid ((Lib.decodeN n b0 b1 b2 b3).1 : Int) = true) ∧ 1 ≤ (Lib.decodeN n b0 b1 b2 b3).2 ∧ (Lib.decodeN n b0 b1 b2 b3).2 ≤ n ∧
    (2 ≤ (Lib.decodeN n b0 b1 b2 b3).2 → 128 ≤ b1) ∧ (3 ≤ (Lib.decodeN n b0 b1 b2 b3).2 → 128 ≤ b2) ∧ (4 ≤ (Lib.decodeN n b0 b1 b2 b3).2 → 128 ≤ b3) ∧ (Lib.decodeN n b0 b1 b2 b3).2 ≤ 4) := by
  unfold Lib.decodeN Utf8.valid
  repeat' split
  all_goals simp
  all_goals omega
theorem decode_high2 (s : ByteArray) (i : Nat) (hi : i < s.size) (h : 128 ≤ (s.get! i).toNat) : 128 ≤ (Utf8.decode s i).1 ∧ Utf8.valid ((Utf8.decode s i).1 : Int) = true ∧ 1 ≤ (Utf8.decode s i).2 ∧ i + (Utf8.decode s i).2 ≤ s.size ∧ ∀ j, i ≤ j → j < i + (Utf8.decode s i).2 → 128 ≤ (s.get! j).toNat := by
  rw [Lib.decode_at]
  obtain ⟨h1, h2, h3, h4, h5, h6, h7, h8⟩ := dec_high (s.size - i) (s.get! i).toNat (s.get! (i + 1)).toNat (s.get! (i + 2)).toNat (s.get! (i + 3)).toNat (by omega) h
  refine ⟨h1, h2, h3, by omega, fun j hj1 hj2 => ?_⟩
  obtain ⟨k, rfl⟩ : ∃ k, j = i + k := ⟨j - i, by omega⟩
  match k, hj2 with
  | 0, _ => exact h
  | 1, hj2 => exact h5 (by omega)
  | 2, hj2 => exact h6 (by omega)
  | 3, hj2 => exact h7 (by omega)
  | k + 4, hj2 => omega
set_option maxHeartbeats 2000000 in
theorem rune116 (r : Nat) (hv : Utf8.valid (r : Int) = true) (h128 : 128 ≤ r) (w : World) : Calls Tryz.prog 116 #[.string ⟨#[44, 32]⟩, .int .i32 (r : Int)] w fun e w' => e = .returned (.int .i64 (-1)) ∧ Below w.heap.size w w' := by
  have h1 : ¬ (r : Int) < 128 := by omega
  have h0 : (0 : Int) ≤ (r : Int) := by omega
  have hval : Lib.validRune (r : Int) = true := by
    unfold Utf8.valid at hv
    unfold Lib.validRune
    simp at hv ⊢
    omega
  by_cases h : r = 65533
  · have hr : ((r : Int) == 65533) = true := by rw [h]; rfl
    clear h hv hval h128
    go_enter Tryz.func116, Tryz.ntmps116
    go_wp2_with fail
    go_loopg [5, 6] 2 (fun g _ _ wx => ∃ i : Nat, i + g = 2 ∧ wx = w.iter ⟨#[44, 32]⟩ i)
    case atStart => exact ⟨0, rfl, rfl⟩
    case round =>
      obtain ⟨i, hig, rfl⟩ := hrel
      match i, hig with
      | 0, hig =>
        obtain rfl : gk = 2 := by omega
        have hnx := fun ty => run_next_ascii (P := Tryz.prog) w ⟨#[44, 32]⟩ 0 ty (by decide) (by decide)
        go_wp2_with fail
        go_roundg 1
        case measure => omega
        case rel => exact ⟨1, rfl, rfl⟩
      | 1, hig =>
        obtain rfl : gk = 1 := by omega
        have hnx := fun ty => run_next_ascii (P := Tryz.prog) w ⟨#[44, 32]⟩ 1 ty (by decide) (by decide)
        go_wp2_with fail
        go_roundg 0
        case measure => omega
        case rel => exact ⟨2, rfl, rfl⟩
      | i + 2, hig =>
        obtain rfl : i = 0 := by omega
        have hnx := fun ty => run_next_end (P := Tryz.prog) w ⟨#[44, 32]⟩ 2 ty (by decide)
        go_wp2_with fail
        go_ret
        exact ⟨rfl, (Below.refl _ _).alloc (Nat.le_refl _) _⟩
  · have hr : ((r : Int) == 65533) = false := by rw [beq_eq_false_iff_ne]; omega
    obtain ⟨e1, e2, e3⟩ := encode_facts (r : Int) hv (by omega)
    obtain ⟨rs, hrs⟩ : ∃ rs, Utf8.encode (r : Int) = rs := ⟨_, rfl⟩
    have hconv : ∀ w, (convert 21 9 (.int .i32 (r : Int))).run Tryz.prog w = .ok (.string rs) w := fun w => by
      rw [← hrs]; exact run_convert_int_string w 21 9 .i32 (r : Int) (by rw [Tryz.underlying21]; rfl) Tryz.underlying9
    rw [hrs] at e1 e2 e3
    have MV := Lib.hid (Tryz.utf8_ValidRune (r : Int) w)
    rw [hval] at MV
    clear h h128 hv hval hrs
    obtain ⟨n, hn⟩ : ∃ n, rs.size = n + 1 := ⟨rs.size - 1, by omega⟩
    have hi0 : (rs.size : Int) - 1 = (n : Int) := by omega
    have hn1 : 1 ≤ n := by omega
    have hn3 : n ≤ 3 := by omega
    by_cases h2 : n = 1
    · subst h2
      have hlt : 1 < rs.size := by omega
      obtain ⟨c, hc⟩ : ∃ c, rs[1] = c := ⟨_, rfl⟩
      have hc128 : 128 ≤ c.toNat := by
        have := e3 (by omega)
        simp only [hn] at this
        rw [← hc]
        exact this
      have hne : ((((⟨#[44, 32]⟩ : ByteArray)[1]'(by decide)).toNat : Int) != (c.toNat : Int)) = true := by
        have : (((⟨#[44, 32]⟩ : ByteArray)[1]'(by decide)).toNat : Int) = 32 := by decide
        rw [this]; simp; omega
      have MI : ∀ w, Calls Tryz.prog 70 #[.string ByteArray.empty, .int .u8 (c.toNat : Int)] w fun e w' => e = .returned (.int .i64 (-1)) ∧ w' = w := fun w => Tryz.strings_IndexByte ⟨#[]⟩ (c.toNat : Int) w
      have M70 := Lib.hid MI
      have hw2 : IntKind.i64.wrap 2 = 2 := by kernel_rfl
      have hsl : ByteArray.extract ⟨#[44, 32]⟩ 2 2 = ⟨#[]⟩ := by decide
      clear e1 e2 e3 hc128 MI
      go_enter Tryz.func116, Tryz.ntmps116
      go_wp2_with fail
      refine MV.out.mono ?_
      rintro e w' ⟨rfl, rfl⟩
      go_wp2_with fail
      go_step3
      go_wp2_with fail
      go_loopw [9] (fun v wr => v = .int .i64 1 ∧ w' = wr) (fun _ _ => 0)
      case atStart => exact ⟨rfl, rfl⟩
      case round =>
        obtain ⟨rfl, rfl⟩ := hrel
        go_wp2_with fail
        go_step3
        go_wp2_with fail
        go_quiet (fail)
        go_wp2_with fail
        have MQ : Hid (∀ n, Calls Tryz.prog 70 #[.string ByteArray.empty, .int .u8 (c.toNat : Int)] (w'.drewN (nq + n)) fun e w2 => e = .returned (.int .i64 (-1)) ∧ ∃ m, w2 = w'.drewN (nq + m)) := Lib.hid fun n => (M70.out _).mono fun e w2 ⟨h1, h2⟩ => ⟨h1, n, h2⟩
        go_quiet ((go_at_call 70; with_reducible exact MQ.out _))
        go_wp2_with fail
        simp (config := { zetaDelta := true }) only [Exit.noGoto, Exit.inBlock, Exit.then]
        go_ret
        exact ⟨rfl, below_drewN (Below.refl _ _) _⟩
    · have hge : (2 : Int) ≤ (n : Int) := by omega
      clear e1 e2 e3
      go_enter Tryz.func116, Tryz.ntmps116
      go_wp2_with fail
      refine MV.out.mono ?_
      rintro e w' ⟨rfl, rfl⟩
      go_wp2_with fail
      go_step3
      go_wp2_with fail
      go_loopw [9] (fun v wr => v = .int .i64 (n : Int) ∧ w' = wr) (fun _ _ => 0)
      case atStart => exact ⟨rfl, rfl⟩
      case round =>
        obtain ⟨rfl, rfl⟩ := hrel
        have hge2 : ¬ (n : Int) < 2 := by omega
        go_wp2_with fail
        go_ret
        exact ⟨rfl, Below.refl _ _⟩
theorem h171 : (Tryz.prog.info? 171).map (fun i => (i.zero, i.size)) = some (some (.agg (Array.replicate 256 (.bool false))), 256) := by kernel_rfl
theorem sep_contains (c : UInt8) : [44, 32].contains c = !nsep c := by
  unfold nsep
  rw [Bool.eq_iff_iff]
  simp
theorem high_nsep {c : UInt8} (h : 128 ≤ c.toNat) : nsep c = true := by
  unfold nsep
  simp
  constructor <;> (rintro rfl; simp at h)
theorem any_tw : ∀ l : List UInt8, (Lib.indexAny l [44, 32] = -1 ∧ l.takeWhile nsep = l) ∨ (Lib.indexAny l [44, 32] = ((l.takeWhile nsep).length : Int))
  | [] => .inl ⟨rfl, rfl⟩
  | c :: l => by
    cases h : nsep c with
    | true =>
      have hc : [44, 32].contains c = false := by rw [sep_contains, h]; rfl
      rcases any_tw l with ⟨h1, h2⟩ | h1
      · left
        refine ⟨?_, by rw [List.takeWhile_cons, if_pos h, h2]⟩
        unfold Lib.indexAny
        rw [hc, h1]; rfl
      · right
        unfold Lib.indexAny
        rw [hc, List.takeWhile_cons, if_pos h, h1]
        have : (((l.takeWhile nsep).length : Int) == -1) = false := by rw [beq_eq_false_iff_ne]; omega
        rw [this]
        simp
    | false =>
      right
      have hc : [44, 32].contains c = true := by rw [sep_contains, h]; rfl
      unfold Lib.indexAny
      rw [hc, List.takeWhile_cons, h]
      rfl
theorem noAny_run {s : ByteArray} {i n : Nat} (h : Lib.NoAny s.data.toList [44, 32] i) (hd : ∀ j, i ≤ j → j < i + n → 128 ≤ (s.get! j).toNat) : Lib.NoAny s.data.toList [44, 32] (i + n) := by
  intro j b hj hb
  by_cases h1 : j < i
  · exact h j b h1 hb
  · have h2 := hd j (by omega) hj
    have h3 : s.get! j = b := by
      show s.data[j]! = b
      rw [Array.getElem?_toList] at hb
      rw [getElem!_def, hb]
    rw [h3] at h2
    rw [sep_contains, high_nsep h2]; rfl
set_option maxHeartbeats 2000000 in
theorem any82s (s : ByteArray) (hl : s.size ≤ 8) (w : World) : Calls Tryz.prog 82 #[.string s, .string ⟨#[44, 32]⟩] w fun e w' => e = .returned (.int .i64 (Lib.indexAny s.data.toList [44, 32])) ∧ Below w.heap.size w w' := by
  have h8 : decide ((8 : Int) < (s.size : Int)) = false := decide_eq_false (by omega)
  have h8n : ¬ (8 : Int) < (s.size : Int) := by omega
  have M117 : Hid (∀ w, Calls Tryz.prog 117 #[.int .i64 (s.size : Int)] w fun e w' => e = .returned (.bool (decide ((8 : Int) < (s.size : Int)))) ∧ w' = w) := Lib.hid fun w => Tryz.strings_shouldUseASCIISet _ w
  rw [h8] at M117
  go_enter Tryz.func82, Tryz.ntmps82
  go_wp2_with fail
  refine (M117.out _).mono ?_
  rintro e w' ⟨rfl, rfl⟩
  go_wp2_with fail
  go_loopg [9, 10] s.size (fun g _ _ wx => ∃ i : Nat, i + g = s.size ∧ wx.heap[w'.heap.size]? = some (.stringIter s i) ∧ Below w'.heap.size w' wx ∧ Lib.NoAny s.data.toList [44, 32] i)
  case atStart => exact ⟨0, by omega, World.iter_heap _ _ _, (Below.refl _ _).alloc (Nat.le_refl _) _, Lib.NoAny.zero _ _⟩
  case round =>
    obtain ⟨i, hig, hk, hb, hno⟩ := hrel
    have HN := Lib.hid hno
    have HB := Lib.hid hb
    have HK := Lib.hid hk
    clear hno hb hk
    cases gk with
    | zero =>
      obtain rfl : i = s.size := by omega
      have hnx := fun ty => Lib.run_next_end_at (P := Tryz.prog) wr w'.heap.size s s.size ty HK.out (by omega)
      go_wp2_with fail
      go_ret
      exact ⟨by rw [Lib.indexAny_none (by rw [← Lib.size_eq]; exact HN.out)]; rfl, HB.out⟩
    | succ g =>
      have hi : i < s.size := by omega
      obtain ⟨x, hx⟩ : ∃ x : UInt8, s[i]'hi = x := ⟨_, rfl⟩
      have hxl : s.data.toList[i]? = some x := by rw [← hx]; exact Lib.data_getElem? s i hi
      have hxb : s.get! i = x := by
        show s.data[i]! = x
        rw [Array.getElem?_toList] at hxl
        rw [getElem!_def, hxl]
      have Hx := Lib.hid hxl
      by_cases h128 : x.toNat < 128
      · have hnx := fun ty => Lib.run_next_ascii_at (P := Tryz.prog) wr w'.heap.size s i ty HK.out hi (by rw [hx]; exact h128)
        rw [hx] at hnx
        obtain ⟨wi, hwi⟩ : ∃ wi, wr.iterAt w'.heap.size s (i + 1) = wi := ⟨_, rfl⟩
        rw [hwi] at hnx
        have HBI : Hid (Below w'.heap.size w' wi) := Lib.hid (by rw [← hwi]; exact Lib.below_iterAt HB.out (Nat.le_refl _) _ _)
        have HKI : Hid (wi.heap[w'.heap.size]? = some (.stringIter s (i + 1))) := Lib.hid (by rw [← hwi]; exact Lib.iterAt_heap _ _ _ _ _ HK.out)
        have MR := Lib.hid (fun w => Tryz.strings_IndexRune_ascii ⟨#[44, 32]⟩ (x.toNat : Int) w (by omega) (by omega))
        have hback : ((x.toNat : Int)).toNat.toUInt8 = x := by simp
        rw [hback] at MR
        have hcon := Lib.contains_iff_indexByte [44, 32] x
        obtain ⟨n, hn⟩ : ∃ n, Lib.indexByte [44, 32] x = n := ⟨_, rfl⟩
        have MR2 : Hid (∀ w, Calls Tryz.prog 116 #[.string ⟨#[44, 32]⟩, .int .i32 (x.toNat : Int)] w fun e w' => e = .returned (.int .i64 n) ∧ w' = w) := Lib.hid (fun w => by rw [← hn]; exact MR.out w)
        rw [hn] at hcon
        clear hxl hx hxb h128 hback MR hn hwi
        cases hin : [44, 32].contains x
        · rw [hin] at hcon
          have hlt : ¬ ((0 : Int) ≤ n) := of_decide_eq_false hcon.symm
          have HIN := Lib.hid hin
          clear hcon hin
          go_wp2_with fail
          refine (MR2.out _).mono ?_
          rintro e w2 ⟨rfl, rfl⟩
          go_wp2_with fail
          go_roundg g
          case measure => omega
          case rel => exact ⟨i + 1, by omega, HKI.out, HBI.out, HN.out.succ Hx.out HIN.out⟩
        · rw [hin] at hcon
          have hlt : ((0 : Int) ≤ n) := of_decide_eq_true hcon.symm
          have HIN := Lib.hid hin
          clear hcon hin
          go_wp2_with fail
          refine (MR2.out _).mono ?_
          rintro e w2 ⟨rfl, rfl⟩
          go_wp2_with fail
          go_ret
          exact ⟨by rw [Lib.indexAny_hit HN.out Hx.out HIN.out]; rfl, HBI.out⟩
      · have hnx := fun ty => Lib.run_next_any_at (P := Tryz.prog) wr w'.heap.size s i ty HK.out hi
        obtain ⟨d1, d2, d3, d4, d5⟩ := decode_high2 s i hi (by rw [hxb]; omega)
        obtain ⟨p, hp⟩ : ∃ p, Utf8.decode s i = p := ⟨_, rfl⟩
        rw [hp] at hnx d1 d2 d3 d4 d5
        obtain ⟨r, n⟩ := p
        simp only at hnx d1 d2 d3 d4 d5
        obtain ⟨wi, hwi⟩ : ∃ wi, wr.iterAt w'.heap.size s (i + n) = wi := ⟨_, rfl⟩
        rw [hwi] at hnx
        have HBI : Hid (Below w'.heap.size w' wi) := Lib.hid (by rw [← hwi]; exact Lib.below_iterAt HB.out (Nat.le_refl _) _ _)
        have HKI : Hid (wi.heap[w'.heap.size]? = some (.stringIter s (i + n))) := Lib.hid (by rw [← hwi]; exact Lib.iterAt_heap _ _ _ _ _ HK.out)
        have HSI : Hid (w'.heap.size < wi.heap.size) := Lib.hid (Array.getElem?_eq_some_iff.1 HKI.out).1
        have MR := Lib.hid (fun w => rune116 r d2 d1 w)
        have HNN := Lib.hid (noAny_run HN.out d5)
        clear hxl hx hxb h128 d1 d2 d5 hp hwi
        go_wp2_with fail
        refine (MR.out _).mono ?_
        rintro e w2 ⟨rfl, hb2⟩
        have HB2 : Hid (Below w'.heap.size w' w2) := Lib.hid (HBI.out.trans (hb2.mono HBI.out.size))
        have HK2 : Hid (w2.heap[w'.heap.size]? = some (.stringIter s (i + n))) := Lib.hid ((hb2.block _ HSI.out).trans HKI.out)
        clear hb2
        go_wp2_with fail
        go_roundg (s.size - (i + n))
        case measure => omega
        case rel => exact ⟨i + n, by omega, HK2.out, HB2.out, HNN.out⟩
theorem any82 (s : ByteArray) (hl : s.size < 4294967281) (w : World) : Calls Tryz.prog 82 #[.string s, .string ⟨#[44, 32]⟩] w fun e w' => e = .returned (.int .i64 (Lib.indexAny s.data.toList [44, 32])) ∧ Below w.heap.size w w' := by
  by_cases h : s.size ≤ 8
  · exact any82s s h w
  · refine (Tryz.strings_IndexAny_long (zero_of_info h171).1 s ⟨#[44, 32]⟩ w (by decide) (by omega) hl (by decide) (fun j b hb => ?_)).mono ?_
    · match j, hb with
      | 0, hb => cases hb; decide
      | 1, hb => cases hb; decide
      | j + 2, hb => simp at hb
    · rintro e w' ⟨rfl, rfl⟩
      exact ⟨rfl, ((Below.refl _ _).alloc (Nat.le_refl _) _).alloc (by simp) _⟩
end Go.Proofs.YtagiddbfhlokcaaGreatDoor.Ser
/- A value's text cut off a line, by the program and by the reference. Condition: the text's length. -/
namespace Go.Proofs.YtagiddbfhlokcaaGreatDoor.Ser
open Go.RowKit Go.Sort
set_option maxRecDepth 100000
def CvPost (l : List UInt8) (w : World) (e : Ending) (w' : World) : Prop :=
  Below w.heap.size w w' ∧ match vEnd l with
    | some m => e = .returned (.tuple #[.string (bs (l.take m)), .string (bs (l.drop m)), .bool true])
    | none => ∃ a b, e = .returned (.tuple #[.string a, .string b, .bool false])
def InCv (l : List UInt8) (w : World) (v : Value) (wr : World) : Prop :=
  ∃ k : Nat, v = .int .i64 (k : Int) ∧ 1 ≤ k ∧ ((k ≤ l.length ∧ qa 1 l.tail = qa k (l.drop k)) ∨ (k = l.length + 1 ∧ qa 1 l.tail = none)) ∧ Below w.heap.size w wr
theorem take_bs (l : List UInt8) (k : Nat) : (bs l).extract 0 k = bs (l.take k) := by
  apply ByteArray.ext
  apply Array.toList_inj.1
  rw [Lib.extract_data, bs_list, bs_list]
  simp
theorem drop_bs (l : List UInt8) (k : Nat) : (bs l).extract k (bs l).size = bs (l.drop k) := by
  apply ByteArray.ext
  apply Array.toList_inj.1
  rw [Lib.extract_data, bs_list, bs_list, bs_size]
  rw [List.take_of_length_le (by simp)]
theorem byte_bne (c : UInt8) (n : Nat) (hn : n < 256) (h : c ≠ UInt8.ofNat n) : ((c.toNat : Int) != (n : Int)) = true := by
  have := byte_ne c n hn h
  rw [bne, this]; rfl
set_option maxHeartbeats 4000000 in
theorem cutv42 (l : List UInt8) (hl : l.length < 4294967281) (w : World) : Calls Tryz.prog 42 #[.string (bs l)] w (CvPost l w) := by
  have M82 := Lib.hid (fun w => any82 (bs l) (by rw [bs_size]; exact hl) w)
  rw [bs_list] at M82
  have M41 := Lib.hid (fun w => hasP l 34 w)
  obtain ⟨z, hz⟩ : ∃ z, Lib.indexAny l [44, 32] = z := ⟨_, rfl⟩
  have HT := Lib.hid (any_tw l)
  rw [hz] at M82 HT
  obtain ⟨P, hP⟩ : ∃ P, CvPost l w = P := ⟨_, rfl⟩
  have HP := Lib.hid hP
  rw [hP]
  have HSZ := Lib.hid (bs_size l)
  obtain ⟨bq, hbq⟩ : ∃ b, headIs 34 l = b := ⟨_, rfl⟩
  rw [hbq] at M41
  have HBQ := Lib.hid hbq
  clear hz hP hbq
  go_enter Tryz.func42, Tryz.ntmps42
  go_wp2_with fail
  refine (M82.out _).mono ?_
  rintro e w1 ⟨rfl, hb1⟩
  have HB1 := Lib.hid hb1
  clear hb1
  go_wp2_with fail
  refine (M41.out _).mono ?_
  rintro e w' ⟨rfl, rfl⟩
  cases bq with
  | true =>
    go_wp2_with fail
    go_loopw [5] (fun v wr => InCv l w v wr) (fun v _ => l.length + 1 - (intOf v).toNat)
    case atStart =>
      refine ⟨1, rfl, Nat.le_refl _, .inl ⟨?_, ?_⟩, HB1.out⟩
      · have := HBQ.out
        cases l with
        | nil => cases this
        | cons c r => simp
      · rw [List.drop_one]
    case round =>
      obtain ⟨k, rfl, hk1, hq, hb⟩ := hrel
      have HB := Lib.hid hb
      clear hb
      have HNONE : ∀ wz, Below w.heap.size w wz → vEnd l = none → ∀ a b : ByteArray, ∀ q : Bool, q = false → P (.returned (.tuple #[.string a, .string b, .bool q])) wz := fun wz hb hv a b q hq => by
        rw [← HP.out, hq]
        refine ⟨hb, ?_⟩
        rw [hv]
        exact ⟨a, b, rfl⟩
      have HN := Lib.hid HNONE
      have HV0 : Hid (vEnd l = qa 1 l.tail) := Lib.hid (by unfold vEnd; rw [HBQ.out, if_pos rfl])
      clear HNONE
      rcases hq with ⟨hk, hq⟩ | ⟨hk, hq⟩
      · rcases list_cases (l.drop k) with e | ⟨c, t, e⟩
        · have hke : l.length ≤ k := List.drop_eq_nil_iff.1 e
          have HV : Hid (vEnd l = none) := Lib.hid (by rw [HV0.out, hq, e]; rfl)
          have h1 : ¬ (k : Int) < ((bs l).size : Int) := by rw [HSZ.out]; omega
          have H2 : Hid (decide ((k : Int) + 1 ≤ ((bs l).size : Int)) = false) := Lib.hid (decide_eq_false (by rw [HSZ.out]; omega))
          have hkb : (k : Int) ≤ 4294967290 := by omega
          clear hq e hke hk
          go_wp2_with fail
          go_region
          go_wp2_with fail
          go_ret3
          exact HN.out _ (by first | exact HB.out.drew | exact HB.out) HV.out _ _ _ H2.out
        · obtain ⟨hlt, hg, hz, hd, hkl⟩ := at_cons e
          by_cases h34 : c = 34
          · have c34 : ((c.toNat : Int) != 34) = false := by rw [h34]; rfl
            have HV : Hid (vEnd l = some (k + 1)) := Lib.hid (by rw [HV0.out, hq, e, h34, qa_q])
            have HM : Hid (min ((k : Int) + 1) ((bs l).size : Int) = ((k + 1 : Nat) : Int)) := Lib.hid (by rw [HSZ.out]; omega)
            have H2 : Hid (decide ((k : Int) + 1 ≤ ((bs l).size : Int)) = true) := Lib.hid (decide_eq_true (by rw [HSZ.out]; omega))
            clear hq e hk h34
            go_wp2_with fail
            go_region
            go_wp2_with fail
            go_ret3
            rw [← HP.out]
            refine ⟨HB.out.drew, ?_⟩
            rw [HV.out]
            simp only [HM.out, H2.out, Int.toNat_natCast]
            rw [take_bs, drop_bs]
            rfl
          · have c34 : ((c.toNat : Int) != 34) = true := byte_bne c 34 (by decide) h34
            by_cases h92 : c = 92
            · have c92 : ((c.toNat : Int) == 92) = true := byte_eq c 92 (by decide) h92
              cases t with
              | nil =>
                have HR : Hid (InCv l w (.int .i64 ((k : Int) + 1 + 1)) wr) := Lib.hid ⟨k + 2, congrArg (Value.int .i64) (by omega), by omega, .inr ⟨by have := congrArg List.length e; simp at this; omega, by rw [hq, e, h92, qa_esc0]⟩, HB.out⟩
                clear hq e h34 h92 hd
                go_wp2_with fail
                go_roundw
                case rel => exact HR.out
                case measure => simp [intOf]; omega
              | cons d r =>
                have hd2 : l.drop (k + 2) = r := by rw [← List.drop_drop, e]; rfl
                have HR : Hid (InCv l w (.int .i64 ((k : Int) + 1 + 1)) wr) := Lib.hid ⟨k + 2, congrArg (Value.int .i64) (by omega), by omega, .inl ⟨by have := congrArg List.length e; simp at this; omega, by rw [hq, e, h92, qa_esc, hd2]⟩, HB.out⟩
                clear hq e h34 h92 hd hd2
                go_wp2_with fail
                go_roundw
                case rel => exact HR.out
                case measure => simp [intOf]; omega
            · have c92 : ((c.toNat : Int) == 92) = false := byte_ne c 92 (by decide) h92
              have HR : Hid (InCv l w (.int .i64 ((k : Int) + 1)) wr) := Lib.hid ⟨k + 1, congrArg (Value.int .i64) (by omega), by omega, .inl ⟨hkl, by rw [hq, e, qa_next _ _ _ h34 h92, hd]⟩, HB.out⟩
              clear hq e h34 h92 hd
              go_wp2_with fail
              go_roundw
              case rel => exact HR.out
              case measure => simp [intOf]; omega
      · have HV : Hid (vEnd l = none) := Lib.hid (by rw [HV0.out, hq])
        have h1 : ¬ (k : Int) < ((bs l).size : Int) := by rw [HSZ.out]; omega
        have H2 : Hid (decide ((k : Int) + 1 ≤ ((bs l).size : Int)) = false) := Lib.hid (decide_eq_false (by rw [HSZ.out]; omega))
        obtain ⟨kk, hkk⟩ : ∃ kk, kk = k := ⟨_, rfl⟩
        have hkb : (kk : Int) ≤ 4294967290 := by omega
        rw [← hkk] at h1 H2 ⊢
        clear hq hk hkk
        go_wp2_with fail
        go_region
        go_wp2_with fail
        go_ret3
        exact HN.out _ (by first | exact HB.out.drew | exact HB.out) HV.out _ _ _ H2.out
  | false =>
    have HV0 : Hid (vEnd l = some (l.takeWhile nsep).length) := Lib.hid (by unfold vEnd; rw [HBQ.out]; rfl)
    rcases HT.out with ⟨hz, ht⟩ | hz
    · subst hz
      have HTT := Lib.hid ht
      clear ht
      go_wp2_with fail
      go_quiet (fail)
      go_wp2_with fail
      go_ret3
      rw [← HP.out]
      refine ⟨below_drewN HB1.out _, ?_⟩
      rw [HV0.out, HTT.out]
      simp only [HSZ.out]
      rw [List.take_length, List.drop_length]
      rfl
    · obtain ⟨m, hm⟩ : ∃ m, (l.takeWhile nsep).length = m := ⟨_, rfl⟩
      have hml : m ≤ l.length := by rw [← hm]; exact (List.takeWhile_sublist nsep).length_le
      rw [hm] at hz HV0
      subst hz
      have hmz : ¬ (m : Int) < 0 := by omega
      have hmb : (m : Int) ≤ ((bs l).size : Int) := by rw [HSZ.out]; omega
      clear hm hml
      go_wp2_with fail
      go_quiet (fail)
      go_wp2_with fail
      go_ret3
      rw [← HP.out]
      refine ⟨below_drewN HB1.out _, ?_⟩
      rw [HV0.out]
      simp only
      rw [take_bs, drop_bs]
      rfl
end Go.Proofs.YtagiddbfhlokcaaGreatDoor.Ser
/- The text of 1.5. Conditions: the cells of the two tables of powers. -/
namespace Go.Proofs.YtagiddbfhlokcaaGreatDoor.One
open Go.RowKit
end Go.Proofs.YtagiddbfhlokcaaGreatDoor.One
