/- Several texts of this proof, laid together. Conditions: as each says. -/
import Derived.Test.YtigicmnngppipaaGreatDoorFAB
import Derived.Test.YtigicmnngppipaaGreatDoorFAF
import Derived.Shelf.Strings.SlTrimAscii
import Derived.WalkKit
import Derived.ProofKit
import Derived.Below
import Derived.WalkSpells
import Derived.WalkLawsBesides
import Derived.Lib.Hide
import Derived.Deep.Cut
import Derived.Deep.CutRange
import Derived.IntWalk
import Derived.Outline
import Derived.Test.YtigicmnngppipaaGreatDoorRows
import Derived.Lib.Builder
/- Digits cut off a text; is a text a float's? No condition but its size. -/
namespace Go.Proofs.YtigicmnngppipaaGreatDoor
open Go.RowKit
set_option maxRecDepth 100000
/-- A text of bytes. -/
def bs (l : List UInt8) : ByteArray := ⟨l.toArray⟩
theorem bs_eta (s : ByteArray) : s = bs s.data.toList := by
  apply ByteArray.ext
  simp [bs]
theorem bs_list (l : List UInt8) : (bs l).data.toList = l := by simp [bs]
theorem bs_size (l : List UInt8) : (bs l).size = l.length := by simp [bs, ByteArray.size]
theorem bs_toList (l : List UInt8) : (bs l).toList = l := by rw [Lib.toList_data, bs_list]
theorem bs_get (l : List UInt8) (i : Nat) (h : i < (bs l).size) : (bs l)[i] = l[i]'(by rw [bs_size] at h; exact h) := by
  show (bs l).data[i] = _
  simp [bs]
theorem bs_tail (c : UInt8) (t : List UInt8) : (bs (c :: t)).extract 1 (bs (c :: t)).size = bs t := by
  apply ByteArray.ext
  apply Array.toList_inj.1
  rw [Lib.extract_data, bs_list, bs_list, bs_size]
  simp
theorem cut_digits (c : UInt8) : (List.contains [48, 49, 50, 51, 52, 53, 54, 55, 56, 57] c) = PF.isDig c := by
  have key : ∀ n : Fin 256, (List.contains [48, 49, 50, 51, 52, 53, 54, 55, 56, 57] (UInt8.ofNat n.val)) = PF.isDig (UInt8.ofNat n.val) := by decide +kernel
  have := key ⟨c.toNat, c.toNat_lt⟩
  simpa using this
theorem trim120 (l : List UInt8) (w : World) : Calls Tryz.prog 199 #[.string (bs l), .string ⟨#[48, 49, 50, 51, 52, 53, 54, 55, 56, 57]⟩] w fun e w' => e = .returned (.string (bs (l.dropWhile PF.isDig))) ∧ Below w.heap.size w w' := by
  refine (Any.strings_TrimLeft_laid Tryz.lays161 (by kernel_rfl) (bs l) ⟨#[48, 49, 50, 51, 52, 53, 54, 55, 56, 57]⟩ w (by decide) ?_).mono ?_
  · intro j b hb
    have : b ∈ [48, 49, 50, 51, 52, 53, 54, 55, 56, 57] := List.mem_of_getElem? hb
    simp at this
    rcases this with rfl | rfl | rfl | rfl | rfl | rfl | rfl | rfl | rfl | rfl <;> decide
  · rintro e w' ⟨rfl, h⟩
    refine ⟨?_, h⟩
    rw [bs_list]
    have e2 : Lib.trimLeftS l [48, 49, 50, 51, 52, 53, 54, 55, 56, 57] = l.dropWhile PF.isDig := by
      unfold Lib.trimLeftS
      congr 1
      funext c
      exact cut_digits c
    show Ending.returned (.string ⟨(Lib.trimLeftS l [48, 49, 50, 51, 52, 53, 54, 55, 56, 57]).toArray⟩) = _
    rw [e2]
    rfl
theorem take_drop_len (l : List UInt8) : (l.takeWhile PF.isDig).length + (l.dropWhile PF.isDig).length = l.length := by
  rw [← List.length_append, List.takeWhile_append_dropWhile]
theorem digits83 (l : List UInt8) (hl : l.length ≤ 281474976710656) (w : World) : Calls Tryz.prog 168 #[.string (bs l)] w fun e w' => e = .returned (.tuple #[.int .i64 ((l.takeWhile PF.isDig).length : Int), .string (bs (l.dropWhile PF.isDig))]) ∧ Below w.heap.size w w' := by
  have M := Lib.hid (trim120 l w)
  have ht := take_drop_len l
  obtain ⟨r, hr⟩ : ∃ r, l.dropWhile PF.isDig = r := ⟨_, rfl⟩
  obtain ⟨n, hn⟩ : ∃ n, (l.takeWhile PF.isDig).length = n := ⟨_, rfl⟩
  rw [hr] at M ht ⊢
  rw [hn] at ht ⊢
  have e1 : ((bs l).size : Int) - ((bs r).size : Int) = (n : Int) := by rw [bs_size, bs_size]; omega
  have b1 : (bs l).size ≤ 281474976710656 := by rw [bs_size]; exact hl
  have b2 : (bs r).size ≤ 281474976710656 := by rw [bs_size]; omega
  clear hr hn ht
  go_enter Tryz.func168, Tryz.ntmps168
  go_wp2_with fail
  refine M.out.mono ?_
  rintro e w2 ⟨rfl, hb⟩
  have HB := Lib.hid hb
  clear hb
  go_wp2_with fail
  go_ret2
  exact ⟨rfl, HB.out⟩
theorem trimMinus (l : List UInt8) : Lib.trimPrefix l [45] = PF.body l := by
  unfold Lib.trimPrefix Lib.hasPrefix
  by_cases hc : ∃ r, l = 45 :: r
  · obtain ⟨r, rfl⟩ := hc
    rw [(PF.body_neg r).1]
    simp
  · rw [(PF.body_pos fun r e => hc ⟨r, e⟩).1]
    cases l with
    | nil => simp
    | cons c r =>
      have : ¬(45 = c) := fun e => hc ⟨r, by rw [e]⟩
      simp [List.isPrefixOf, this]
theorem minus84 (l : List UInt8) (w : World) : Calls Tryz.prog 169 #[.string (bs l), .string ⟨#[45]⟩] w fun e w' => e = .returned (.string (bs (PF.body l))) ∧ w = w' := by
  refine (Tryz.strings_TrimPrefix (bs l) ⟨#[45]⟩ w).mono ?_
  rintro e w' ⟨rfl, h⟩
  refine ⟨?_, h.symm⟩
  rw [bs_list]
  show Ending.returned (.string ⟨(Lib.trimPrefix l [45]).toArray⟩) = _
  rw [trimMinus]
  rfl
/-- The text behind perhaps a dot and digits; is all well? -/
def dotP (ok : Bool) (r : List UInt8) : Bool × List UInt8 := match r with
  | 46 :: t => (ok && !(t.takeWhile PF.isDig).isEmpty, t.dropWhile PF.isDig)
  | _ => (ok, r)
def strip (t : List UInt8) : List UInt8 := match t with
  | 43 :: u => u
  | 45 :: u => u
  | _ => t
def expP (ok : Bool) (r : List UInt8) : Bool × List UInt8 := match r with
  | c :: t => if c = 101 ∨ c = 69 then (ok && !((strip t).takeWhile PF.isDig).isEmpty, (strip t).dropWhile PF.isDig) else (ok, r)
  | [] => (ok, [])
theorem drop_all : ∀ l : List UInt8, (l.dropWhile PF.isDig).isEmpty = l.all PF.isDig
  | [] => rfl
  | c :: t => by
    by_cases hc : PF.isDig c = true
    · rw [List.dropWhile_cons, if_pos hc, drop_all t, List.all_cons, hc, Bool.true_and]
    · rw [List.dropWhile_cons, if_neg hc, List.all_cons]
      simp [hc]
theorem okD_parts (u : List UInt8) : PF.okD u = (!(u.takeWhile PF.isDig).isEmpty && (u.dropWhile PF.isDig).isEmpty) := by
  unfold PF.okD
  cases u with
  | nil => rfl
  | cons c t =>
    by_cases hc : PF.isDig c = true
    · rw [List.takeWhile_cons, List.dropWhile_cons, if_pos hc, if_pos hc]
      simp only [List.isEmpty_cons, Bool.not_false, Bool.true_and, List.all_cons, hc]
      rw [drop_all]
    · rw [List.takeWhile_cons, List.dropWhile_cons, if_neg hc, if_neg hc]
      simp [hc]
theorem okX_strip (t : List UInt8) : PF.okX t = PF.okD (strip t) := by
  cases t with
  | nil => rfl
  | cons c u =>
    show (if c = 43 ∨ c = 45 then PF.okD u else PF.okD (c :: u)) = _
    by_cases h1 : c = 43
    · subst h1; rw [if_pos (.inl rfl)]; rfl
    · by_cases h2 : c = 45
      · subst h2; rw [if_pos (.inr rfl)]; rfl
      · rw [if_neg (by simp [h1, h2])]
        have : strip (c :: u) = c :: u := by
          unfold strip
          split
          · rename_i v h; injection h with h _; exact absurd h h1
          · rename_i v h; injection h with h _; exact absurd h h2
          · rfl
        rw [this]
theorem expP_ok (ok : Bool) (r : List UInt8) : ((expP ok r).1 && (expP ok r).2.isEmpty) = (ok && PF.tailE r) := by
  cases r with
  | nil => simp [expP, PF.tailE]
  | cons c t =>
    unfold expP PF.tailE
    simp only
    by_cases hc : c = 101 ∨ c = 69
    · rw [if_pos hc, okX_strip, okD_parts]
      have : (decide (c = 101) || decide (c = 69)) = true := by simpa using hc
      rw [this]
      cases ok <;> simp
    · rw [if_neg hc]
      have : (decide (c = 101) || decide (c = 69)) = false := by simpa using hc
      rw [this]
      simp
theorem dotP_ok (ok : Bool) (r : List UInt8) : ((expP (dotP ok r).1 (dotP ok r).2).1 && (expP (dotP ok r).1 (dotP ok r).2).2.isEmpty) = (ok && PF.tailM r) := by
  rw [expP_ok]
  by_cases hc : ∃ t, r = 46 :: t
  · obtain ⟨t, rfl⟩ := hc
    show (ok && !(t.takeWhile PF.isDig).isEmpty && PF.tailE (t.dropWhile PF.isDig)) = (ok && (!(t.takeWhile PF.isDig).isEmpty && PF.tailE (t.dropWhile PF.isDig)))
    rw [Bool.and_assoc]
  · have e1 : dotP ok r = (ok, r) := by
      unfold dotP
      split
      · rename_i t; exact absurd ⟨t, rfl⟩ hc
      · rfl
    have e2 : PF.tailM r = PF.tailE r := by
      unfold PF.tailM
      split
      · rename_i t; exact absurd ⟨t, rfl⟩ hc
      · rfl
    rw [e1, e2]
def headIs (c : UInt8) : List UInt8 → Bool
  | a :: _ => decide (a = c)
  | [] => false
theorem hasP (r : List UInt8) (c : UInt8) (w : World) : Calls Tryz.prog 136 #[.string (bs r), .string ⟨#[c]⟩] w fun e w' => e = .returned (.bool (headIs c r)) ∧ w = w' := by
  refine (Tryz.strings_HasPrefix (bs r) ⟨#[c]⟩ w).mono ?_
  rintro e w' ⟨rfl, h⟩
  refine ⟨?_, h.symm⟩
  rw [bs_list]
  cases r with
  | nil => rfl
  | cons a t =>
    show Ending.returned (.bool (Lib.hasPrefix (a :: t) [c])) = _
    unfold Lib.hasPrefix headIs
    by_cases h : a = c
    · subst h; simp
    · have h' : ¬c = a := fun e => h e.symm
      simp [List.isPrefixOf, h, h']
theorem dotP_no {r : List UInt8} (ok : Bool) (h : ∀ t, r ≠ 46 :: t) : dotP ok r = (ok, r) := by
  unfold dotP
  split
  · rename_i t; exact absurd rfl (h t)
  · rfl
theorem head_no {r : List UInt8} {c : UInt8} (h : ∀ t, r ≠ c :: t) : headIs c r = false := by
  cases r with
  | nil => rfl
  | cons a t => exact decide_eq_false fun e => h t (by rw [e])
def isE : List UInt8 → Bool
  | c :: _ => decide (c = 101) || decide (c = 69)
  | [] => false
def isS : List UInt8 → Bool
  | c :: _ => decide (c = 43) || decide (c = 45)
  | [] => false
theorem bs_head {r : List UInt8} {c : UInt8} {t : List UInt8} (e : r = c :: t) : ∃ h : 0 < (bs r).size, (bs r)[0] = c ∧ (bs r).toList.isEmpty = false ∧ (0 : Int) < ((bs r).size : Int) ∧ (1 : Int) ≤ ((bs r).size : Int) ∧ (bs r).extract 1 (bs r).size = bs t := by
  subst e
  have h : 0 < (bs (c :: t)).size := by rw [bs_size]; simp
  exact ⟨h, bs_get _ 0 h, by rw [bs_toList]; rfl, by omega, by omega, bs_tail c t⟩
theorem list_cases (r : List UInt8) : r = [] ∨ ∃ c t, r = c :: t := by
  cases r with
  | nil => exact .inl rfl
  | cons c t => exact .inr ⟨c, t, rfl⟩
theorem bs_nil {r : List UInt8} (e : r = []) : (bs r).toList.isEmpty = true := by rw [bs_toList, e]; rfl
theorem strip_no {t : List UInt8} (h : isS t = false) : strip t = t := by
  cases t with
  | nil => rfl
  | cons c u =>
    simp only [isS, Bool.or_eq_false_iff, decide_eq_false_iff_not] at h
    unfold strip
    split
    · rename_i v e; injection e with e _; exact absurd e h.1
    · rename_i v e; injection e with e _; exact absurd e h.2
    · rfl
theorem strip_yes {t : List UInt8} (h : isS t = true) : ∃ c u, t = c :: u ∧ strip t = u := by
  cases t with
  | nil => cases h
  | cons c u =>
    refine ⟨c, u, rfl, ?_⟩
    simp only [isS, Bool.or_eq_true, decide_eq_true_eq] at h
    rcases h with rfl | rfl <;> rfl
theorem expP_yes {r : List UInt8} (ok : Bool) (h : isE r = true) : ∃ c t, r = c :: t ∧ expP ok r = (ok && !((strip t).takeWhile PF.isDig).isEmpty, (strip t).dropWhile PF.isDig) := by
  cases r with
  | nil => cases h
  | cons c t =>
    refine ⟨c, t, rfl, ?_⟩
    simp only [isE, Bool.or_eq_true, decide_eq_true_eq] at h
    unfold expP
    simp only
    rw [if_pos h]
set_option maxHeartbeats 4000000 in
theorem decimal58 (l : List UInt8) (hl : l.length ≤ 281474976710656) (w : World) : Calls Tryz.prog 140 #[.string (bs l)] w fun e w' => e = .returned (.bool (PF.decB l)) ∧ Below w.heap.size w w' := by
  have hbl : (PF.body l).length ≤ 281474976710656 := by
    unfold PF.body
    split
    · rename_i r; simp at hl; omega
    · exact hl
  obtain ⟨ok1, hok1⟩ : ∃ b : Bool, (!((PF.body l).takeWhile PF.isDig).isEmpty && decide (l.length ≤ 400)) = b := ⟨_, rfl⟩
  obtain ⟨r1, hr1⟩ : ∃ r, (PF.body l).dropWhile PF.isDig = r := ⟨_, rfl⟩
  obtain ⟨n1, hn1⟩ : ∃ n, ((PF.body l).takeWhile PF.isDig).length = n := ⟨_, rfl⟩
  obtain ⟨R, hR⟩ : ∃ R, PF.decB l = R := ⟨_, rfl⟩
  have hfin : ((expP (dotP ok1 r1).1 (dotP ok1 r1).2).1 && (expP (dotP ok1 r1).1 (dotP ok1 r1).2).2.isEmpty) = R := by
    rw [dotP_ok, ← hR, ← hok1, ← hr1]
    unfold PF.decB
    rw [PF.okM_parts, Bool.and_right_comm]
  have hr1l : r1.length ≤ 281474976710656 := by have := take_drop_len (PF.body l); rw [hr1] at this; omega
  have M84 := Lib.hid (fun w => minus84 l w)
  have M83 := Lib.hid (fun w => digits83 (PF.body l) hbl w)
  rw [hr1, hn1] at M83
  rw [hR]
  have HFIN := Lib.hid hfin
  have HOK1 := Lib.hid hok1
  have HN1 := Lib.hid hn1
  have bl : (bs l).size ≤ 281474976710656 := by rw [bs_size]; exact hl
  have HBL : Hid ((bs l).size = l.length) := Lib.hid (bs_size l)
  clear hfin hok1 hr1 hn1 hR hbl
  go_enter Tryz.func140, Tryz.ntmps140
  go_wp2_with fail
  refine (M84.out _).mono ?_
  rintro e w' ⟨rfl, rfl⟩
  go_wp2_with fail
  refine (M83.out _).mono ?_
  rintro e w2 ⟨rfl, hb2⟩
  have HB2 := Lib.hid hb2
  clear hb2
  go_upto_region 2 with (fail)
  go_cut [5] from 12 to 18 (fun o w' => o = .bool ok1 ∧ w2 = w')
  case first =>
    have hok := HOK1.out
    have hn := HN1.out
    cases ht : (PF.body l).takeWhile PF.isDig with
    | nil =>
      rw [ht] at hok hn
      obtain rfl : n1 = 0 := by rw [← hn]; rfl
      obtain rfl : false = ok1 := by rw [← hok]; rfl
      clear hok hn ht
      go_wp2_with fail
      go_meet
      case rel => exact ⟨rfl, rfl⟩
    | cons a t =>
      rw [ht] at hok hn
      have n1p : (0 : Int) < (n1 : Int) := by rw [← hn]; simp
      have ho : decide (l.length ≤ 400) = ok1 := by rw [← hok]; rfl
      have ho2 : decide (((bs l).size : Int) ≤ 400) = ok1 := by rw [← ho, HBL.out]; exact decide_eq_decide.2 (by omega)
      clear hok hn ht ho
      go_wp2_with fail
      go_meet
      case rel => exact ⟨rfl, rfl⟩
  case rest =>
    obtain ⟨rfl, rfl⟩ := hcut
    obtain ⟨d, hd⟩ : ∃ d, dotP ok1 r1 = d := ⟨_, rfl⟩
    have hfin := HFIN.out
    rw [hd] at hfin
    have HFIN2 := Lib.hid hfin
    have HD := Lib.hid hd
    have hd2 : d.2.length ≤ 281474976710656 := by
      rw [← hd]
      unfold dotP
      split
      · rename_i t
        have := take_drop_len t
        simp at hr1l
        simp only
        omega
      · exact hr1l
    have HD2 := Lib.hid hd2
    have HR1 := Lib.hid hr1l
    clear hd hfin HFIN hd2 hr1l
    obtain ⟨h46, hh46⟩ : ∃ b, headIs 46 r1 = b := ⟨_, rfl⟩
    have M41 := Lib.hid (fun w => hasP r1 46 w)
    rw [hh46] at M41
    have H46 := Lib.hid hh46
    clear hh46
    go_wp2_with fail
    refine (M41.out _).mono ?_
    rintro e w' ⟨rfl, rfl⟩
    go_upto_if 20 with (fail)
    go_cut [3, 4, 5] from 20 to 31 (fun n r o w' => (∃ z : Int, n = .int .i64 z) ∧ r = .string (bs d.2) ∧ o = .bool d.1 ∧ Below w.heap.size w w')
    case first =>
      by_cases hc : ∃ t, r1 = 46 :: t
      · obtain ⟨t, rfl⟩ := hc
        have ht := bs_tail 46 t
        obtain rfl : h46 = true := H46.out.symm
        have hsz : ((bs (46 :: t)).size : Int) = (t.length : Int) + 1 := by rw [bs_size]; simp
        have h1 : (1 : Int) ≤ ((bs (46 :: t)).size : Int) := by omega
        have htl : t.length ≤ 281474976710656 := by have := HR1.out; simp at this; omega
        have M := Lib.hid (fun w => digits83 t htl w)
        have hdd := HD.out
        have e1 : dotP ok1 (46 :: t) = (ok1 && !(t.takeWhile PF.isDig).isEmpty, t.dropWhile PF.isDig) := rfl
        rw [e1] at hdd
        have HDD := Lib.hid hdd
        have HSZ := Lib.hid hsz
        clear hdd e1 hsz
        go_wp2_with fail
        refine (M.out _).mono ?_
        rintro e w3 ⟨rfl, hb3⟩
        have HB3 := Lib.hid (HB2.out.trans (hb3.mono HB2.out.size))
        clear hb3
        cases hk : t.takeWhile PF.isDig with
        | nil =>
          have hdd := HDD.out
          rw [hk] at hdd
          have HDE := Lib.hid hdd
          clear hdd
          cases ok1
          · go_wp2_with fail
            go_meet
            case rel => exact ⟨⟨_, rfl⟩, by rw [← HDE.out], by rw [← HDE.out]; rfl, HB3.out⟩
          · go_wp2_with fail
            go_meet
            case rel => exact ⟨⟨_, rfl⟩, by rw [← HDE.out], by rw [← HDE.out]; rfl, HB3.out⟩
        | cons a u =>
          have hdd := HDD.out
          rw [hk] at hdd
          have HDE := Lib.hid hdd
          have u1 : (0 : Int) < ((u.length + 1 : Nat) : Int) := by omega
          clear hdd
          cases ok1
          · go_wp2_with fail
            go_meet
            case rel => exact ⟨⟨_, rfl⟩, by rw [← HDE.out], by rw [← HDE.out]; rfl, HB3.out⟩
          · go_wp2_with fail
            go_meet
            case rel => exact ⟨⟨_, rfl⟩, by rw [← HDE.out], by rw [← HDE.out]; rfl, HB3.out⟩
      · have hdd := HD.out
        have hno : ∀ t, r1 ≠ 46 :: t := fun t e => hc ⟨t, e⟩
        rw [dotP_no ok1 hno] at hdd
        have HDD := Lib.hid hdd
        obtain rfl : h46 = false := by rw [← H46.out]; exact head_no hno
        clear hdd hc hno
        go_wp2_with fail
        go_meet
        case rel => exact ⟨⟨_, rfl⟩, by rw [← HDD.out], by rw [← HDD.out], HB2.out⟩
    case rest =>
      obtain ⟨⟨z, rfl⟩, rfl, rfl, hb⟩ := hcut
      rename World => w3
      obtain ⟨ok2, r2⟩ := d
      simp only at HFIN2 HD2 ⊢
      have HB3 := Lib.hid hb
      obtain ⟨bE, hbE⟩ : ∃ b, isE r2 = b := ⟨_, rfl⟩
      have HBE := Lib.hid hbE
      clear hb hbE HD
      go_upto_region 6 with (fail)
      go_cut [43] from 32 to 43 (fun t w' => t = .bool bE ∧ w3 = w')
      case first =>
        have hbe := HBE.out
        rcases list_cases r2 with hrc | ⟨c, t, hrc⟩
        · have e0 := bs_nil hrc
          rw [hrc] at hbe
          obtain rfl : false = bE := hbe
          clear hrc
          go_wp2_with fail
          go_meet
          case rel => exact ⟨rfl, rfl⟩
        · obtain ⟨hsz, hg, hem, h0i, h1i, htl⟩ := bs_head hrc
          rw [hrc] at hbe
          clear hrc htl
          by_cases h1 : c = 101
          · obtain rfl : true = bE := by rw [← hbe, h1]; rfl
            have c1 : ((c.toNat : Int) == 101) = true := by rw [h1]; rfl
            clear h1 hbe
            go_wp2_with fail
            go_meet
            case rel => exact ⟨rfl, rfl⟩
          · have c1 : ((c.toNat : Int) == 101) = false := by rw [beq_eq_false_iff_ne]; intro h; exact h1 (UInt8.toNat_inj.1 (by have : (101 : UInt8).toNat = 101 := rfl; omega))
            by_cases h2 : c = 69
            · obtain rfl : true = bE := by rw [← hbe, h2]; rfl
              have c2 : ((c.toNat : Int) == 69) = true := by rw [h2]; rfl
              clear h1 h2 hbe
              go_wp2_with fail
              go_meet
              case rel => exact ⟨rfl, rfl⟩
            · obtain rfl : false = bE := by rw [← hbe]; simp [isE, h1, h2]
              have c2 : ((c.toNat : Int) == 69) = false := by rw [beq_eq_false_iff_ne]; intro h; exact h2 (UInt8.toNat_inj.1 (by have : (69 : UInt8).toNat = 69 := rfl; omega))
              clear h1 h2 hbe
              go_wp2_with fail
              go_meet
              case rel => exact ⟨rfl, rfl⟩
      case rest =>
        obtain ⟨rfl, rfl⟩ := hcut
        obtain ⟨x, hx⟩ : ∃ x, expP ok2 r2 = x := ⟨_, rfl⟩
        have HX := Lib.hid hx
        have hfin := HFIN2.out
        rw [hx] at hfin
        have HF := Lib.hid hfin
        clear hx hfin HFIN2
        go_upto_if 43 with (fail)
        go_cut [3, 4, 5] from 44 to 69 (fun n r o w' => (∃ z : Int, n = .int .i64 z) ∧ r = .string (bs x.2) ∧ o = .bool x.1 ∧ Below w.heap.size w w')
        case first =>
          have hbe := HBE.out
          have hxx := HX.out
          cases bE with
          | false =>
            have he : expP ok2 r2 = (ok2, r2) := by
              cases r2 with
              | nil => rfl
              | cons c t => 
                have : ¬(c = 101 ∨ c = 69) := by simpa [isE] using hbe
                unfold expP
                simp only
                rw [if_neg this]
            rw [he] at hxx
            have HXX := Lib.hid hxx
            clear hbe hxx he
            go_wp2_with fail
            go_meet
            case rel => exact ⟨⟨_, rfl⟩, by rw [← HXX.out], by rw [← HXX.out], HB3.out⟩
          | true =>
            obtain ⟨c, t, hrc, he⟩ := expP_yes ok2 hbe
            rw [he] at hxx
            have HXX := Lib.hid hxx
            obtain ⟨hsz, hg, hem, h0i, h1i, htl⟩ := bs_head hrc
            have htlen : t.length ≤ 281474976710656 := by have := HD2.out; rw [hrc] at this; simp at this; omega
            obtain ⟨bS, hbS⟩ : ∃ b, isS t = b := ⟨_, rfl⟩
            have HBS := Lib.hid hbS
            have HTL := Lib.hid htlen
            clear hbe hxx he hrc hbS htlen
            go_upto_region 8 with (fail)
            go_cut [57] from 46 to 57 (fun q w' => q = .bool bS ∧ w3 = w')
            case first =>
              have hbs := HBS.out
              rcases list_cases t with htc | ⟨d, u, htc⟩
              · have e0 := bs_nil htc
                rw [htc] at hbs
                obtain rfl : false = bS := hbs
                clear htc
                go_wp2_with fail
                go_meet
                case rel => exact ⟨rfl, rfl⟩
              · obtain ⟨hsz2, hg2, hem2, h0i2, h1i2, htl2⟩ := bs_head htc
                rw [htc] at hbs
                clear htc htl2
                by_cases h1 : d = 43
                · obtain rfl : true = bS := by rw [← hbs, h1]; rfl
                  have c1 : ((d.toNat : Int) == 43) = true := by rw [h1]; rfl
                  clear h1 hbs
                  go_wp2_with fail
                  go_meet
                  case rel => exact ⟨rfl, rfl⟩
                · have c1 : ((d.toNat : Int) == 43) = false := by rw [beq_eq_false_iff_ne]; intro h; exact h1 (UInt8.toNat_inj.1 (by have : (43 : UInt8).toNat = 43 := rfl; omega))
                  by_cases h2 : d = 45
                  · obtain rfl : true = bS := by rw [← hbs, h2]; rfl
                    have c2 : ((d.toNat : Int) == 45) = true := by rw [h2]; rfl
                    clear h1 h2 hbs
                    go_wp2_with fail
                    go_meet
                    case rel => exact ⟨rfl, rfl⟩
                  · obtain rfl : false = bS := by rw [← hbs]; simp [isS, h1, h2]
                    have c2 : ((d.toNat : Int) == 45) = false := by rw [beq_eq_false_iff_ne]; intro h; exact h2 (UInt8.toNat_inj.1 (by have : (45 : UInt8).toNat = 45 := rfl; omega))
                    clear h1 h2 hbs
                    go_wp2_with fail
                    go_meet
                    case rel => exact ⟨rfl, rfl⟩
            case rest =>
              obtain ⟨rfl, rfl⟩ := hcut
              obtain ⟨v, hv⟩ : ∃ v, strip t = v := ⟨_, rfl⟩
              rw [hv] at HXX
              have hvl : v.length ≤ 281474976710656 := by
                have := HTL.out
                cases bS with
                | false => rw [← hv, strip_no HBS.out]; exact this
                | true =>
                  obtain ⟨d, u, h1, h2⟩ := strip_yes HBS.out
                  rw [h2] at hv
                  rw [h1] at this
                  rw [← hv]
                  simp at this
                  omega
              have M := Lib.hid (fun w => digits83 v hvl w)
              have HVV := Lib.hid hv
              clear hv hvl
              go_upto_if 57 with (fail)
              go_cut [4] from 58 to 59 (fun r w' => r = .string (bs v) ∧ w3 = w')
              case first =>
                cases bS with
                | false =>
                  have hv2 : t = v := by rw [← HVV.out, strip_no HBS.out]
                  have HV2 := Lib.hid hv2
                  clear hv2
                  go_wp2_with fail
                  go_meet
                  case rel => exact ⟨by rw [HV2.out], rfl⟩
                | true =>
                  obtain ⟨d, u, h1, h2⟩ := strip_yes HBS.out
                  obtain ⟨hsz2, hg2, hem2, h0i2, h1i2, htl2⟩ := bs_head h1
                  have HV2 : Hid (u = v) := Lib.hid (by rw [← HVV.out, h2])
                  clear h1 h2
                  go_wp2_with fail
                  go_meet
                  case rel => exact ⟨by rw [HV2.out], rfl⟩
              case rest =>
                obtain ⟨rfl, rfl⟩ := hcut
                go_wp2_with fail
                refine (M.out _).mono ?_
                rintro e w5 ⟨rfl, hb5⟩
                have HB5 := Lib.hid (HB3.out.trans (hb5.mono HB3.out.size))
                clear hb5
                have hxx := HXX.out
                rcases list_cases (v.takeWhile PF.isDig) with hk | ⟨a, u, hk⟩
                · rw [hk] at hxx ⊢
                  have HXY := Lib.hid hxx
                  clear hxx hk
                  cases ok2
                  · go_wp2_with fail
                    go_meet
                    case rel => exact ⟨⟨_, rfl⟩, by rw [← HXY.out], by rw [← HXY.out]; rfl, HB5.out⟩
                  · go_wp2_with fail
                    go_meet
                    case rel => exact ⟨⟨_, rfl⟩, by rw [← HXY.out], by rw [← HXY.out]; rfl, HB5.out⟩
                · rw [hk] at hxx ⊢
                  have HXY := Lib.hid hxx
                  have u1 : (0 : Int) < ((u.length + 1 : Nat) : Int) := by omega
                  clear hxx hk
                  cases ok2
                  · go_wp2_with fail
                    go_meet
                    case rel => exact ⟨⟨_, rfl⟩, by rw [← HXY.out], by rw [← HXY.out]; rfl, HB5.out⟩
                  · go_wp2_with fail
                    go_meet
                    case rel => exact ⟨⟨_, rfl⟩, by rw [← HXY.out], by rw [← HXY.out]; rfl, HB5.out⟩
        case rest =>
          obtain ⟨⟨z2, rfl⟩, rfl, rfl, hb⟩ := hcut
          rename World => w4
          obtain ⟨ok3, r3⟩ := x
          have hf := HF.out
          simp only at hf
          have HF2 := Lib.hid hf
          have HB4 := Lib.hid hb
          clear hf hb
          cases ok3 with
          | false =>
            go_wp2_with fail
            go_ret
            exact ⟨by rw [← HF2.out]; rfl, HB4.out⟩
          | true =>
            rcases list_cases r3 with hrc | ⟨c, t, hrc⟩
            · have e0 := bs_nil hrc
              rw [hrc] at HF2
              clear hrc
              go_wp2_with fail
              go_ret
              exact ⟨by rw [← HF2.out]; rfl, HB4.out⟩
            · obtain ⟨hsz, hg, hem, h0i, h1i, htl⟩ := bs_head hrc
              rw [hrc] at HF2
              clear hrc htl
              go_wp2_with fail
              go_ret
              exact ⟨by rw [← HF2.out]; rfl, HB4.out⟩
end Go.Proofs.YtigicmnngppipaaGreatDoor
/- The builder's two writers at this dump: copyCheck and WriteByte, after the shelf's own proofs (the dump's copyCheck bears a refused panic, so the shelf's laying does not fit). Condition: a builder of the call's own, of fewer than 2^47 bytes. -/
namespace Go.Proofs.YtigicmnngppipaaGreatDoor
open Go.RowKit
set_option maxRecDepth 100000
theorem sizeBuilder : (Tryz.prog.info? 111).map (·.size) = some 2 := by kernel_rfl
theorem info5b : (Tryz.prog.info? 5).map (fun i => (i.zero, i.size, i.bytes)) = some (some (.int .u8 0), 1, 1) := by kernel_rfl
theorem liesBuilder : liesAt Tryz.prog Tryz.prog.depth 111 (2 / Tryz.prog.cellsOf 111) 0 111 1 = true := by kernel_rfl
theorem copyCheck_used (b : Nat) (w : World) (h0 : w.cell? ⟨b, 0, none⟩ = some (.pointer (some ⟨b, 0, none⟩))) :
    Calls Tryz.prog 100 #[.pointer (some ⟨b, 0, none⟩)] w fun e w' => e = .returned (.tuple #[]) ∧ w = w' := by
  obtain ⟨j, hj, _⟩ := Option.map_eq_some_iff.1 sizeBuilder
  go_enter Tryz.func100, Tryz.ntmps100
  go_wp2
  rw [Lib.run_neq_ptr_same w _ Tryz.underlying109 hj]
  go_wp2
  go_end0
  exact ⟨rfl, rfl⟩
theorem copyCheck_fresh (b : Nat) (w : World) (h0 : w.cell? ⟨b, 0, none⟩ = some (.pointer none)) (hsh : w.shape? b = some (111, 2)) (hfz : w.frozen? ⟨b, 0, none⟩ = false) :
    Calls Tryz.prog 100 #[.pointer (some ⟨b, 0, none⟩)] w fun e w' => e = .returned (.tuple #[]) ∧ w.setCell ⟨b, 0, none⟩ (.pointer (some ⟨b, 0, none⟩)) = w' := by
  obtain ⟨j, hj, hjs⟩ := Option.map_eq_some_iff.1 sizeBuilder
  go_enter Tryz.func100, Tryz.ntmps100
  go_wp2
  rw [Lib.run_to_unsafe w ⟨b, 0, none⟩ Tryz.underlying109 Tryz.underlying163 hj (by rw [hjs]; decide) hsh (Nat.zero_lt_succ 1)]
  simp only [Result.andThen]
  rw [Oper.upon_value]
  go_wp2
  rw [run_callFunc_extern Tryz.func121 (by kernel_rfl) (by kernel_rfl) (by kernel_rfl) (e := Extern.AbiNoEscape.same) (by kernel_rfl)]
  rw [Lib.run_noEscape]
  simp only [Result.andThen]
  rw [Oper.upon_value]
  go_wp2
  rw [Lib.run_from_unsafe w ⟨b, 0, none⟩ Tryz.underlying163 Tryz.underlying109 hj hsh liesBuilder]
  simp only [Result.andThen]
  rw [Oper.upon_value]
  go_wp2
  go_end0
  exact ⟨rfl, rfl⟩
theorem copyCheck (B b : Nat) (bs : List Value) (w : World) (h : Lib.IsBuilder 111 5 B b bs w) :
    Calls Tryz.prog 100 #[.pointer (some ⟨b, 0, none⟩)] w fun e w' => e = .returned (.tuple #[]) ∧ (Lib.BuilderAt 111 5 B b (.pointer (some ⟨b, 0, none⟩)) bs w' ∧ Below B w w') := by
  rcases h with h | h
  · refine (copyCheck_fresh b w h.cell0 h.shape h.frozen0).mono ?_
    rintro e w' ⟨rfl, rfl⟩
    exact ⟨rfl, h.used _, (Below.refl B w).setCell (p := ⟨b, 0, none⟩) h.1 _⟩
  · refine (copyCheck_used b w h.cell0).mono ?_
    rintro e w' ⟨rfl, rfl⟩
    exact ⟨rfl, h, Below.refl B _⟩
theorem writeByte (B b : Nat) (bs : List Value) (c : Int) (w : World) (h : Lib.IsBuilder 111 5 B b bs w) (hlen : bs.length + 1 ≤ 140737488355328) (hBw : B ≤ w.heap.size) :
    Calls Tryz.prog 108 #[.pointer (some ⟨b, 0, none⟩), .int .u8 c] w fun e w' => e = .returned .nilIface ∧ (Lib.BuilderAt 111 5 B b (.pointer (some ⟨b, 0, none⟩)) (bs ++ [.int .u8 c]) w' ∧ Below B w w') := by
  obtain ⟨i0, hi, hz0, hz1, hz2⟩ := info_parts info5b
  go_enter Tryz.func108, Tryz.ntmps108
  go_wp2_with (go_at_call 100; refine (copyCheck B b bs _ h).mono ?_)
  rintro e w1 ⟨rfl, h1, hb1⟩
  obtain ⟨hB, v, hbk, hown, hne⟩ := h1
  have c0 : w1.cell? ⟨b, 0, none⟩ = some (.pointer (some ⟨b, 0, none⟩)) := by rw [Lib.cell_of_heap hbk]; rfl
  have c1 : w1.cell? ⟨b, 1, none⟩ = some v := by rw [Lib.cell_of_heap hbk]; rfl
  go_wp2_with (at_builtin; refine wpList_append_own _ rfl _ _ 48 rfl B 5 i0 (.int .u8 0) 1 1 Tryz.underlying48 hi hz0 hz1 hz2 rfl (by decide) _ _ _ rfl (hown.alloc _) ⟨w1.heap.size, 0, none⟩ 1 1 [.int .u8 c] rfl rfl ?c1 ?c2 ?c3 ?c4 ?c5 ?_)
  case c1 =>
    intro j u hj
    match j, hj with
    | 0, hj => simp at hj; subst hj; simp [Addr.add]
  case c2 => intro u hu; simp at hu; subst hu; rfl
  case c3 => unfold maxLen; omega
  case c4 => omega
  case c5 => have := hb1.size; simp; omega
  intro v' w2 hown' hgrow _
  have hlt : b < w1.heap.size := by
    rcases Nat.lt_or_ge b w1.heap.size with h' | h'
    · exact h'
    · simp [Array.getElem?_eq_none h'] at hbk
  have hb2 : w2.heap[b]? = some (.cells #[.pointer (some ⟨b, 0, none⟩), v] 111 (0, 0)) := by
    rw [hgrow.block b (by simp; omega) (fun e => hne e.symm), Lib.alloc_old w1 _ b hlt]
    exact hbk
  have d0 : w2.cell? ⟨b, 0, none⟩ = some (.pointer (some ⟨b, 0, none⟩)) := by rw [Lib.cell_of_heap hb2]; rfl
  have d1 : w2.cell? ⟨b, 1, none⟩ = some v := by rw [Lib.cell_of_heap hb2]; rfl
  have f1 : w2.frozen? ⟨b, 1, none⟩ = false := Lib.frozen_of_heap hb2 1
  obtain ⟨g, cap, rfl⟩ : ∃ g cap, v' = .slice (some ⟨g, 0, none⟩) (bs.length + 1) cap := by
    rcases hown'.2 with ⟨_, h0⟩ | ⟨g, cap, cur, hv, _⟩
    · omega
    · exact ⟨g, cap, hv⟩
  go_wp2
  go_ret
  refine ⟨rfl, ?_, ?_⟩
  · exact Lib.BuilderAt.put (T := 111) (e := 5) hB hb2 (bs' := bs ++ [.int .u8 c]) (by simpa using hown') (by decide)
  · exact ((hb1.alloc (by have := hb1.size; omega) _).grown hgrow (by have := hb1.size; simp; omega) (fun k hk => (hown.lt k hk).1)).setCell (p := ⟨b, 1, none⟩) hB _
end Go.Proofs.YtigicmnngppipaaGreatDoor
