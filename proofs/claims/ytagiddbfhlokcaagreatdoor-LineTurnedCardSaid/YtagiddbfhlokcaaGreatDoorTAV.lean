/- Several texts of this proof, laid together. Conditions: as each says. -/
import Derived.Test.YtagiddbfhlokcaaGreatDoorTAJ
import Derived.Test.YtagiddbfhlokcaaGreatDoorTAN
import Derived.Shelf.Strings.SlTrimAscii
import Derived.WalkKit
import Derived.ProofKit
import Derived.Below
import Derived.WalkSpells
import Derived.WalkLawsBesides
import Derived.Lib.Hide
import Derived.Deep.Cut
import Derived.Deep.CutRange
import Derived.IntWalk
import Derived.Outline
import Derived.Test.YtagiddbfhlokcaaGreatDoorTAT
/- Digits cut off a text; is a text a float's? No condition but its size. -/
namespace Go.Proofs.YtagiddbfhlokcaaGreatDoor
open Go.RowKit
set_option maxRecDepth 100000
/-- A text of bytes. -/
def bs (l : List UInt8) : ByteArray := ⟨l.toArray⟩
theorem bs_eta (s : ByteArray) : s = bs s.data.toList := by
  apply ByteArray.ext
  simp [bs]
theorem bs_list (l : List UInt8) : (bs l).data.toList = l := by simp [bs]
theorem bs_size (l : List UInt8) : (bs l).size = l.length := by simp [bs, ByteArray.size]
theorem bs_toList (l : List UInt8) : (bs l).toList = l := by rw [Lib.toList_data, bs_list]
theorem bs_get (l : List UInt8) (i : Nat) (h : i < (bs l).size) : (bs l)[i] = l[i]'(by rw [bs_size] at h; exact h) := by
  show (bs l).data[i] = _
  simp [bs]
theorem bs_tail (c : UInt8) (t : List UInt8) : (bs (c :: t)).extract 1 (bs (c :: t)).size = bs t := by
  apply ByteArray.ext
  apply Array.toList_inj.1
  rw [Lib.extract_data, bs_list, bs_list, bs_size]
  simp
theorem cut_digits (c : UInt8) : (List.contains [48, 49, 50, 51, 52, 53, 54, 55, 56, 57] c) = PF.isDig c := by
  have key : ∀ n : Fin 256, (List.contains [48, 49, 50, 51, 52, 53, 54, 55, 56, 57] (UInt8.ofNat n.val)) = PF.isDig (UInt8.ofNat n.val) := by decide +kernel
  have := key ⟨c.toNat, c.toNat_lt⟩
  simpa using this
theorem trim120 (l : List UInt8) (w : World) : Calls Tryz.prog 120 #[.string (bs l), .string ⟨#[48, 49, 50, 51, 52, 53, 54, 55, 56, 57]⟩] w fun e w' => e = .returned (.string (bs (l.dropWhile PF.isDig))) ∧ Below w.heap.size w w' := by
  refine (Any.strings_TrimLeft_laid Tryz.lays161 (by kernel_rfl) (bs l) ⟨#[48, 49, 50, 51, 52, 53, 54, 55, 56, 57]⟩ w (by decide) ?_).mono ?_
  · intro j b hb
    have : b ∈ [48, 49, 50, 51, 52, 53, 54, 55, 56, 57] := List.mem_of_getElem? hb
    simp at this
    rcases this with rfl | rfl | rfl | rfl | rfl | rfl | rfl | rfl | rfl | rfl <;> decide
  · rintro e w' ⟨rfl, h⟩
    refine ⟨?_, h⟩
    rw [bs_list]
    have e2 : Lib.trimLeftS l [48, 49, 50, 51, 52, 53, 54, 55, 56, 57] = l.dropWhile PF.isDig := by
      unfold Lib.trimLeftS
      congr 1
      funext c
      exact cut_digits c
    show Ending.returned (.string ⟨(Lib.trimLeftS l [48, 49, 50, 51, 52, 53, 54, 55, 56, 57]).toArray⟩) = _
    rw [e2]
    rfl
theorem take_drop_len (l : List UInt8) : (l.takeWhile PF.isDig).length + (l.dropWhile PF.isDig).length = l.length := by
  rw [← List.length_append, List.takeWhile_append_dropWhile]
theorem digits83 (l : List UInt8) (hl : l.length ≤ 281474976710656) (w : World) : Calls Tryz.prog 83 #[.string (bs l)] w fun e w' => e = .returned (.tuple #[.int .i64 ((l.takeWhile PF.isDig).length : Int), .string (bs (l.dropWhile PF.isDig))]) ∧ Below w.heap.size w w' := by
  have M := Lib.hid (trim120 l w)
  have ht := take_drop_len l
  obtain ⟨r, hr⟩ : ∃ r, l.dropWhile PF.isDig = r := ⟨_, rfl⟩
  obtain ⟨n, hn⟩ : ∃ n, (l.takeWhile PF.isDig).length = n := ⟨_, rfl⟩
  rw [hr] at M ht ⊢
  rw [hn] at ht ⊢
  have e1 : ((bs l).size : Int) - ((bs r).size : Int) = (n : Int) := by rw [bs_size, bs_size]; omega
  have b1 : (bs l).size ≤ 281474976710656 := by rw [bs_size]; exact hl
  have b2 : (bs r).size ≤ 281474976710656 := by rw [bs_size]; omega
  clear hr hn ht
  go_enter Tryz.func83, Tryz.ntmps83
  go_wp2_with fail
  refine M.out.mono ?_
  rintro e w2 ⟨rfl, hb⟩
  have HB := Lib.hid hb
  clear hb
  go_wp2_with fail
  go_ret2
  exact ⟨rfl, HB.out⟩
theorem trimMinus (l : List UInt8) : Lib.trimPrefix l [45] = PF.body l := by
  unfold Lib.trimPrefix Lib.hasPrefix
  by_cases hc : ∃ r, l = 45 :: r
  · obtain ⟨r, rfl⟩ := hc
    rw [(PF.body_neg r).1]
    simp
  · rw [(PF.body_pos fun r e => hc ⟨r, e⟩).1]
    cases l with
    | nil => simp
    | cons c r =>
      have : ¬(45 = c) := fun e => hc ⟨r, by rw [e]⟩
      simp [List.isPrefixOf, this]
theorem minus84 (l : List UInt8) (w : World) : Calls Tryz.prog 84 #[.string (bs l), .string ⟨#[45]⟩] w fun e w' => e = .returned (.string (bs (PF.body l))) ∧ w = w' := by
  refine (Tryz.strings_TrimPrefix (bs l) ⟨#[45]⟩ w).mono ?_
  rintro e w' ⟨rfl, h⟩
  refine ⟨?_, h.symm⟩
  rw [bs_list]
  show Ending.returned (.string ⟨(Lib.trimPrefix l [45]).toArray⟩) = _
  rw [trimMinus]
  rfl
/-- The text behind perhaps a dot and digits; is all well? -/
def dotP (ok : Bool) (r : List UInt8) : Bool × List UInt8 := match r with
  | 46 :: t => (ok && !(t.takeWhile PF.isDig).isEmpty, t.dropWhile PF.isDig)
  | _ => (ok, r)
def strip (t : List UInt8) : List UInt8 := match t with
  | 43 :: u => u
  | 45 :: u => u
  | _ => t
def expP (ok : Bool) (r : List UInt8) : Bool × List UInt8 := match r with
  | c :: t => if c = 101 ∨ c = 69 then (ok && !((strip t).takeWhile PF.isDig).isEmpty, (strip t).dropWhile PF.isDig) else (ok, r)
  | [] => (ok, [])
theorem drop_all : ∀ l : List UInt8, (l.dropWhile PF.isDig).isEmpty = l.all PF.isDig
  | [] => rfl
  | c :: t => by
    by_cases hc : PF.isDig c = true
    · rw [List.dropWhile_cons, if_pos hc, drop_all t, List.all_cons, hc, Bool.true_and]
    · rw [List.dropWhile_cons, if_neg hc, List.all_cons]
      simp [hc]
theorem okD_parts (u : List UInt8) : PF.okD u = (!(u.takeWhile PF.isDig).isEmpty && (u.dropWhile PF.isDig).isEmpty) := by
  unfold PF.okD
  cases u with
  | nil => rfl
  | cons c t =>
    by_cases hc : PF.isDig c = true
    · rw [List.takeWhile_cons, List.dropWhile_cons, if_pos hc, if_pos hc]
      simp only [List.isEmpty_cons, Bool.not_false, Bool.true_and, List.all_cons, hc]
      rw [drop_all]
    · rw [List.takeWhile_cons, List.dropWhile_cons, if_neg hc, if_neg hc]
      simp [hc]
theorem okX_strip (t : List UInt8) : PF.okX t = PF.okD (strip t) := by
  cases t with
  | nil => rfl
  | cons c u =>
    show (if c = 43 ∨ c = 45 then PF.okD u else PF.okD (c :: u)) = _
    by_cases h1 : c = 43
    · subst h1; rw [if_pos (.inl rfl)]; rfl
    · by_cases h2 : c = 45
      · subst h2; rw [if_pos (.inr rfl)]; rfl
      · rw [if_neg (by simp [h1, h2])]
        have : strip (c :: u) = c :: u := by
          unfold strip
          split
          · rename_i v h; injection h with h _; exact absurd h h1
          · rename_i v h; injection h with h _; exact absurd h h2
          · rfl
        rw [this]
theorem expP_ok (ok : Bool) (r : List UInt8) : ((expP ok r).1 && (expP ok r).2.isEmpty) = (ok && PF.tailE r) := by
  cases r with
  | nil => simp [expP, PF.tailE]
  | cons c t =>
    unfold expP PF.tailE
    simp only
    by_cases hc : c = 101 ∨ c = 69
    · rw [if_pos hc, okX_strip, okD_parts]
      have : (decide (c = 101) || decide (c = 69)) = true := by simpa using hc
      rw [this]
      cases ok <;> simp
    · rw [if_neg hc]
      have : (decide (c = 101) || decide (c = 69)) = false := by simpa using hc
      rw [this]
      simp
theorem dotP_ok (ok : Bool) (r : List UInt8) : ((expP (dotP ok r).1 (dotP ok r).2).1 && (expP (dotP ok r).1 (dotP ok r).2).2.isEmpty) = (ok && PF.tailM r) := by
  rw [expP_ok]
  by_cases hc : ∃ t, r = 46 :: t
  · obtain ⟨t, rfl⟩ := hc
    show (ok && !(t.takeWhile PF.isDig).isEmpty && PF.tailE (t.dropWhile PF.isDig)) = (ok && (!(t.takeWhile PF.isDig).isEmpty && PF.tailE (t.dropWhile PF.isDig)))
    rw [Bool.and_assoc]
  · have e1 : dotP ok r = (ok, r) := by
      unfold dotP
      split
      · rename_i t; exact absurd ⟨t, rfl⟩ hc
      · rfl
    have e2 : PF.tailM r = PF.tailE r := by
      unfold PF.tailM
      split
      · rename_i t; exact absurd ⟨t, rfl⟩ hc
      · rfl
    rw [e1, e2]
def headIs (c : UInt8) : List UInt8 → Bool
  | a :: _ => decide (a = c)
  | [] => false
theorem hasP (r : List UInt8) (c : UInt8) (w : World) : Calls Tryz.prog 41 #[.string (bs r), .string ⟨#[c]⟩] w fun e w' => e = .returned (.bool (headIs c r)) ∧ w = w' := by
  refine (Tryz.strings_HasPrefix (bs r) ⟨#[c]⟩ w).mono ?_
  rintro e w' ⟨rfl, h⟩
  refine ⟨?_, h.symm⟩
  rw [bs_list]
  cases r with
  | nil => rfl
  | cons a t =>
    show Ending.returned (.bool (Lib.hasPrefix (a :: t) [c])) = _
    unfold Lib.hasPrefix headIs
    by_cases h : a = c
    · subst h; simp
    · have h' : ¬c = a := fun e => h e.symm
      simp [List.isPrefixOf, h, h']
theorem dotP_no {r : List UInt8} (ok : Bool) (h : ∀ t, r ≠ 46 :: t) : dotP ok r = (ok, r) := by
  unfold dotP
  split
  · rename_i t; exact absurd rfl (h t)
  · rfl
theorem head_no {r : List UInt8} {c : UInt8} (h : ∀ t, r ≠ c :: t) : headIs c r = false := by
  cases r with
  | nil => rfl
  | cons a t => exact decide_eq_false fun e => h t (by rw [e])
def isE : List UInt8 → Bool
  | c :: _ => decide (c = 101) || decide (c = 69)
  | [] => false
def isS : List UInt8 → Bool
  | c :: _ => decide (c = 43) || decide (c = 45)
  | [] => false
theorem bs_head {r : List UInt8} {c : UInt8} {t : List UInt8} (e : r = c :: t) : ∃ h : 0 < (bs r).size, (bs r)[0] = c ∧ (bs r).toList.isEmpty = false ∧ (0 : Int) < ((bs r).size : Int) ∧ (1 : Int) ≤ ((bs r).size : Int) ∧ (bs r).extract 1 (bs r).size = bs t := by
  subst e
  have h : 0 < (bs (c :: t)).size := by rw [bs_size]; simp
  exact ⟨h, bs_get _ 0 h, by rw [bs_toList]; rfl, by omega, by omega, bs_tail c t⟩
theorem list_cases (r : List UInt8) : r = [] ∨ ∃ c t, r = c :: t := by
  cases r with
  | nil => exact .inl rfl
  | cons c t => exact .inr ⟨c, t, rfl⟩
theorem bs_nil {r : List UInt8} (e : r = []) : (bs r).toList.isEmpty = true := by rw [bs_toList, e]; rfl
theorem strip_no {t : List UInt8} (h : isS t = false) : strip t = t := by
  cases t with
  | nil => rfl
  | cons c u =>
    simp only [isS, Bool.or_eq_false_iff, decide_eq_false_iff_not] at h
    unfold strip
    split
    · rename_i v e; injection e with e _; exact absurd e h.1
    · rename_i v e; injection e with e _; exact absurd e h.2
    · rfl
theorem strip_yes {t : List UInt8} (h : isS t = true) : ∃ c u, t = c :: u ∧ strip t = u := by
  cases t with
  | nil => cases h
  | cons c u =>
    refine ⟨c, u, rfl, ?_⟩
    simp only [isS, Bool.or_eq_true, decide_eq_true_eq] at h
    rcases h with rfl | rfl <;> rfl
theorem expP_yes {r : List UInt8} (ok : Bool) (h : isE r = true) : ∃ c t, r = c :: t ∧ expP ok r = (ok && !((strip t).takeWhile PF.isDig).isEmpty, (strip t).dropWhile PF.isDig) := by
  cases r with
  | nil => cases h
  | cons c t =>
    refine ⟨c, t, rfl, ?_⟩
    simp only [isE, Bool.or_eq_true, decide_eq_true_eq] at h
    unfold expP
    simp only
    rw [if_pos h]
set_option maxHeartbeats 4000000 in
theorem decimal58 (l : List UInt8) (hl : l.length ≤ 281474976710656) (w : World) : Calls Tryz.prog 58 #[.string (bs l)] w fun e w' => e = .returned (.bool (PF.decB l)) ∧ Below w.heap.size w w' := by
  have hbl : (PF.body l).length ≤ 281474976710656 := by
    unfold PF.body
    split
    · rename_i r; simp at hl; omega
    · exact hl
  obtain ⟨ok1, hok1⟩ : ∃ b : Bool, (!((PF.body l).takeWhile PF.isDig).isEmpty && decide (l.length ≤ 400)) = b := ⟨_, rfl⟩
  obtain ⟨r1, hr1⟩ : ∃ r, (PF.body l).dropWhile PF.isDig = r := ⟨_, rfl⟩
  obtain ⟨n1, hn1⟩ : ∃ n, ((PF.body l).takeWhile PF.isDig).length = n := ⟨_, rfl⟩
  obtain ⟨R, hR⟩ : ∃ R, PF.decB l = R := ⟨_, rfl⟩
  have hfin : ((expP (dotP ok1 r1).1 (dotP ok1 r1).2).1 && (expP (dotP ok1 r1).1 (dotP ok1 r1).2).2.isEmpty) = R := by
    rw [dotP_ok, ← hR, ← hok1, ← hr1]
    unfold PF.decB
    rw [PF.okM_parts, Bool.and_right_comm]
  have hr1l : r1.length ≤ 281474976710656 := by have := take_drop_len (PF.body l); rw [hr1] at this; omega
  have M84 := Lib.hid (fun w => minus84 l w)
  have M83 := Lib.hid (fun w => digits83 (PF.body l) hbl w)
  rw [hr1, hn1] at M83
  rw [hR]
  have HFIN := Lib.hid hfin
  have HOK1 := Lib.hid hok1
  have HN1 := Lib.hid hn1
  have bl : (bs l).size ≤ 281474976710656 := by rw [bs_size]; exact hl
  have HBL : Hid ((bs l).size = l.length) := Lib.hid (bs_size l)
  clear hfin hok1 hr1 hn1 hR hbl
  go_enter Tryz.func58, Tryz.ntmps58
  go_wp2_with fail
  refine (M84.out _).mono ?_
  rintro e w' ⟨rfl, rfl⟩
  go_wp2_with fail
  refine (M83.out _).mono ?_
  rintro e w2 ⟨rfl, hb2⟩
  have HB2 := Lib.hid hb2
  clear hb2
  go_upto_region 2 with (fail)
  go_cut [5] from 12 to 18 (fun o w' => o = .bool ok1 ∧ w2 = w')
  case first =>
    have hok := HOK1.out
    have hn := HN1.out
    cases ht : (PF.body l).takeWhile PF.isDig with
    | nil =>
      rw [ht] at hok hn
      obtain rfl : n1 = 0 := by rw [← hn]; rfl
      obtain rfl : false = ok1 := by rw [← hok]; rfl
      clear hok hn ht
      go_wp2_with fail
      go_meet
      case rel => exact ⟨rfl, rfl⟩
    | cons a t =>
      rw [ht] at hok hn
      have n1p : (0 : Int) < (n1 : Int) := by rw [← hn]; simp
      have ho : decide (l.length ≤ 400) = ok1 := by rw [← hok]; rfl
      have ho2 : decide (((bs l).size : Int) ≤ 400) = ok1 := by rw [← ho, HBL.out]; exact decide_eq_decide.2 (by omega)
      clear hok hn ht ho
      go_wp2_with fail
      go_meet
      case rel => exact ⟨rfl, rfl⟩
  case rest =>
    obtain ⟨rfl, rfl⟩ := hcut
    obtain ⟨d, hd⟩ : ∃ d, dotP ok1 r1 = d := ⟨_, rfl⟩
    have hfin := HFIN.out
    rw [hd] at hfin
    have HFIN2 := Lib.hid hfin
    have HD := Lib.hid hd
    have hd2 : d.2.length ≤ 281474976710656 := by
      rw [← hd]
      unfold dotP
      split
      · rename_i t
        have := take_drop_len t
        simp at hr1l
        simp only
        omega
      · exact hr1l
    have HD2 := Lib.hid hd2
    have HR1 := Lib.hid hr1l
    clear hd hfin HFIN hd2 hr1l
    obtain ⟨h46, hh46⟩ : ∃ b, headIs 46 r1 = b := ⟨_, rfl⟩
    have M41 := Lib.hid (fun w => hasP r1 46 w)
    rw [hh46] at M41
    have H46 := Lib.hid hh46
    clear hh46
    go_wp2_with fail
    refine (M41.out _).mono ?_
    rintro e w' ⟨rfl, rfl⟩
    go_upto_if 20 with (fail)
    go_cut [3, 4, 5] from 20 to 31 (fun n r o w' => (∃ z : Int, n = .int .i64 z) ∧ r = .string (bs d.2) ∧ o = .bool d.1 ∧ Below w.heap.size w w')
    case first =>
      by_cases hc : ∃ t, r1 = 46 :: t
      · obtain ⟨t, rfl⟩ := hc
        have ht := bs_tail 46 t
        obtain rfl : h46 = true := H46.out.symm
        have hsz : ((bs (46 :: t)).size : Int) = (t.length : Int) + 1 := by rw [bs_size]; simp
        have h1 : (1 : Int) ≤ ((bs (46 :: t)).size : Int) := by omega
        have htl : t.length ≤ 281474976710656 := by have := HR1.out; simp at this; omega
        have M := Lib.hid (fun w => digits83 t htl w)
        have hdd := HD.out
        have e1 : dotP ok1 (46 :: t) = (ok1 && !(t.takeWhile PF.isDig).isEmpty, t.dropWhile PF.isDig) := rfl
        rw [e1] at hdd
        have HDD := Lib.hid hdd
        have HSZ := Lib.hid hsz
        clear hdd e1 hsz
        go_wp2_with fail
        refine (M.out _).mono ?_
        rintro e w3 ⟨rfl, hb3⟩
        have HB3 := Lib.hid (HB2.out.trans (hb3.mono HB2.out.size))
        clear hb3
        cases hk : t.takeWhile PF.isDig with
        | nil =>
          have hdd := HDD.out
          rw [hk] at hdd
          have HDE := Lib.hid hdd
          clear hdd
          cases ok1
          · go_wp2_with fail
            go_meet
            case rel => exact ⟨⟨_, rfl⟩, by rw [← HDE.out], by rw [← HDE.out]; rfl, HB3.out⟩
          · go_wp2_with fail
            go_meet
            case rel => exact ⟨⟨_, rfl⟩, by rw [← HDE.out], by rw [← HDE.out]; rfl, HB3.out⟩
        | cons a u =>
          have hdd := HDD.out
          rw [hk] at hdd
          have HDE := Lib.hid hdd
          have u1 : (0 : Int) < ((u.length + 1 : Nat) : Int) := by omega
          clear hdd
          cases ok1
          · go_wp2_with fail
            go_meet
            case rel => exact ⟨⟨_, rfl⟩, by rw [← HDE.out], by rw [← HDE.out]; rfl, HB3.out⟩
          · go_wp2_with fail
            go_meet
            case rel => exact ⟨⟨_, rfl⟩, by rw [← HDE.out], by rw [← HDE.out]; rfl, HB3.out⟩
      · have hdd := HD.out
        have hno : ∀ t, r1 ≠ 46 :: t := fun t e => hc ⟨t, e⟩
        rw [dotP_no ok1 hno] at hdd
        have HDD := Lib.hid hdd
        obtain rfl : h46 = false := by rw [← H46.out]; exact head_no hno
        clear hdd hc hno
        go_wp2_with fail
        go_meet
        case rel => exact ⟨⟨_, rfl⟩, by rw [← HDD.out], by rw [← HDD.out], HB2.out⟩
    case rest =>
      obtain ⟨⟨z, rfl⟩, rfl, rfl, hb⟩ := hcut
      rename World => w3
      obtain ⟨ok2, r2⟩ := d
      simp only at HFIN2 HD2 ⊢
      have HB3 := Lib.hid hb
      obtain ⟨bE, hbE⟩ : ∃ b, isE r2 = b := ⟨_, rfl⟩
      have HBE := Lib.hid hbE
      clear hb hbE HD
      go_upto_region 6 with (fail)
      go_cut [43] from 32 to 43 (fun t w' => t = .bool bE ∧ w3 = w')
      case first =>
        have hbe := HBE.out
        rcases list_cases r2 with hrc | ⟨c, t, hrc⟩
        · have e0 := bs_nil hrc
          rw [hrc] at hbe
          obtain rfl : false = bE := hbe
          clear hrc
          go_wp2_with fail
          go_meet
          case rel => exact ⟨rfl, rfl⟩
        · obtain ⟨hsz, hg, hem, h0i, h1i, htl⟩ := bs_head hrc
          rw [hrc] at hbe
          clear hrc htl
          by_cases h1 : c = 101
          · obtain rfl : true = bE := by rw [← hbe, h1]; rfl
            have c1 : ((c.toNat : Int) == 101) = true := by rw [h1]; rfl
            clear h1 hbe
            go_wp2_with fail
            go_meet
            case rel => exact ⟨rfl, rfl⟩
          · have c1 : ((c.toNat : Int) == 101) = false := by rw [beq_eq_false_iff_ne]; intro h; exact h1 (UInt8.toNat_inj.1 (by have : (101 : UInt8).toNat = 101 := rfl; omega))
            by_cases h2 : c = 69
            · obtain rfl : true = bE := by rw [← hbe, h2]; rfl
              have c2 : ((c.toNat : Int) == 69) = true := by rw [h2]; rfl
              clear h1 h2 hbe
              go_wp2_with fail
              go_meet
              case rel => exact ⟨rfl, rfl⟩
            · obtain rfl : false = bE := by rw [← hbe]; simp [isE, h1, h2]
              have c2 : ((c.toNat : Int) == 69) = false := by rw [beq_eq_false_iff_ne]; intro h; exact h2 (UInt8.toNat_inj.1 (by have : (69 : UInt8).toNat = 69 := rfl; omega))
              clear h1 h2 hbe
              go_wp2_with fail
              go_meet
              case rel => exact ⟨rfl, rfl⟩
      case rest =>
        obtain ⟨rfl, rfl⟩ := hcut
        obtain ⟨x, hx⟩ : ∃ x, expP ok2 r2 = x := ⟨_, rfl⟩
        have HX := Lib.hid hx
        have hfin := HFIN2.out
        rw [hx] at hfin
        have HF := Lib.hid hfin
        clear hx hfin HFIN2
        go_upto_if 43 with (fail)
        go_cut [3, 4, 5] from 44 to 69 (fun n r o w' => (∃ z : Int, n = .int .i64 z) ∧ r = .string (bs x.2) ∧ o = .bool x.1 ∧ Below w.heap.size w w')
        case first =>
          have hbe := HBE.out
          have hxx := HX.out
          cases bE with
          | false =>
            have he : expP ok2 r2 = (ok2, r2) := by
              cases r2 with
              | nil => rfl
              | cons c t => 
                have : ¬(c = 101 ∨ c = 69) := by simpa [isE] using hbe
                unfold expP
                simp only
                rw [if_neg this]
            rw [he] at hxx
            have HXX := Lib.hid hxx
            clear hbe hxx he
            go_wp2_with fail
            go_meet
            case rel => exact ⟨⟨_, rfl⟩, by rw [← HXX.out], by rw [← HXX.out], HB3.out⟩
          | true =>
            obtain ⟨c, t, hrc, he⟩ := expP_yes ok2 hbe
            rw [he] at hxx
            have HXX := Lib.hid hxx
            obtain ⟨hsz, hg, hem, h0i, h1i, htl⟩ := bs_head hrc
            have htlen : t.length ≤ 281474976710656 := by have := HD2.out; rw [hrc] at this; simp at this; omega
            obtain ⟨bS, hbS⟩ : ∃ b, isS t = b := ⟨_, rfl⟩
            have HBS := Lib.hid hbS
            have HTL := Lib.hid htlen
            clear hbe hxx he hrc hbS htlen
            go_upto_region 8 with (fail)
            go_cut [57] from 46 to 57 (fun q w' => q = .bool bS ∧ w3 = w')
            case first =>
              have hbs := HBS.out
              rcases list_cases t with htc | ⟨d, u, htc⟩
              · have e0 := bs_nil htc
                rw [htc] at hbs
                obtain rfl : false = bS := hbs
                clear htc
                go_wp2_with fail
                go_meet
                case rel => exact ⟨rfl, rfl⟩
              · obtain ⟨hsz2, hg2, hem2, h0i2, h1i2, htl2⟩ := bs_head htc
                rw [htc] at hbs
                clear htc htl2
                by_cases h1 : d = 43
                · obtain rfl : true = bS := by rw [← hbs, h1]; rfl
                  have c1 : ((d.toNat : Int) == 43) = true := by rw [h1]; rfl
                  clear h1 hbs
                  go_wp2_with fail
                  go_meet
                  case rel => exact ⟨rfl, rfl⟩
                · have c1 : ((d.toNat : Int) == 43) = false := by rw [beq_eq_false_iff_ne]; intro h; exact h1 (UInt8.toNat_inj.1 (by have : (43 : UInt8).toNat = 43 := rfl; omega))
                  by_cases h2 : d = 45
                  · obtain rfl : true = bS := by rw [← hbs, h2]; rfl
                    have c2 : ((d.toNat : Int) == 45) = true := by rw [h2]; rfl
                    clear h1 h2 hbs
                    go_wp2_with fail
                    go_meet
                    case rel => exact ⟨rfl, rfl⟩
                  · obtain rfl : false = bS := by rw [← hbs]; simp [isS, h1, h2]
                    have c2 : ((d.toNat : Int) == 45) = false := by rw [beq_eq_false_iff_ne]; intro h; exact h2 (UInt8.toNat_inj.1 (by have : (45 : UInt8).toNat = 45 := rfl; omega))
                    clear h1 h2 hbs
                    go_wp2_with fail
                    go_meet
                    case rel => exact ⟨rfl, rfl⟩
            case rest =>
              obtain ⟨rfl, rfl⟩ := hcut
              obtain ⟨v, hv⟩ : ∃ v, strip t = v := ⟨_, rfl⟩
              rw [hv] at HXX
              have hvl : v.length ≤ 281474976710656 := by
                have := HTL.out
                cases bS with
                | false => rw [← hv, strip_no HBS.out]; exact this
                | true =>
                  obtain ⟨d, u, h1, h2⟩ := strip_yes HBS.out
                  rw [h2] at hv
                  rw [h1] at this
                  rw [← hv]
                  simp at this
                  omega
              have M := Lib.hid (fun w => digits83 v hvl w)
              have HVV := Lib.hid hv
              clear hv hvl
              go_upto_if 57 with (fail)
              go_cut [4] from 58 to 59 (fun r w' => r = .string (bs v) ∧ w3 = w')
              case first =>
                cases bS with
                | false =>
                  have hv2 : t = v := by rw [← HVV.out, strip_no HBS.out]
                  have HV2 := Lib.hid hv2
                  clear hv2
                  go_wp2_with fail
                  go_meet
                  case rel => exact ⟨by rw [HV2.out], rfl⟩
                | true =>
                  obtain ⟨d, u, h1, h2⟩ := strip_yes HBS.out
                  obtain ⟨hsz2, hg2, hem2, h0i2, h1i2, htl2⟩ := bs_head h1
                  have HV2 : Hid (u = v) := Lib.hid (by rw [← HVV.out, h2])
                  clear h1 h2
                  go_wp2_with fail
                  go_meet
                  case rel => exact ⟨by rw [HV2.out], rfl⟩
              case rest =>
                obtain ⟨rfl, rfl⟩ := hcut
                go_wp2_with fail
                refine (M.out _).mono ?_
                rintro e w5 ⟨rfl, hb5⟩
                have HB5 := Lib.hid (HB3.out.trans (hb5.mono HB3.out.size))
                clear hb5
                have hxx := HXX.out
                rcases list_cases (v.takeWhile PF.isDig) with hk | ⟨a, u, hk⟩
                · rw [hk] at hxx ⊢
                  have HXY := Lib.hid hxx
                  clear hxx hk
                  cases ok2
                  · go_wp2_with fail
                    go_meet
                    case rel => exact ⟨⟨_, rfl⟩, by rw [← HXY.out], by rw [← HXY.out]; rfl, HB5.out⟩
                  · go_wp2_with fail
                    go_meet
                    case rel => exact ⟨⟨_, rfl⟩, by rw [← HXY.out], by rw [← HXY.out]; rfl, HB5.out⟩
                · rw [hk] at hxx ⊢
                  have HXY := Lib.hid hxx
                  have u1 : (0 : Int) < ((u.length + 1 : Nat) : Int) := by omega
                  clear hxx hk
                  cases ok2
                  · go_wp2_with fail
                    go_meet
                    case rel => exact ⟨⟨_, rfl⟩, by rw [← HXY.out], by rw [← HXY.out]; rfl, HB5.out⟩
                  · go_wp2_with fail
                    go_meet
                    case rel => exact ⟨⟨_, rfl⟩, by rw [← HXY.out], by rw [← HXY.out]; rfl, HB5.out⟩
        case rest =>
          obtain ⟨⟨z2, rfl⟩, rfl, rfl, hb⟩ := hcut
          rename World => w4
          obtain ⟨ok3, r3⟩ := x
          have hf := HF.out
          simp only at hf
          have HF2 := Lib.hid hf
          have HB4 := Lib.hid hb
          clear hf hb
          cases ok3 with
          | false =>
            go_wp2_with fail
            go_ret
            exact ⟨by rw [← HF2.out]; rfl, HB4.out⟩
          | true =>
            rcases list_cases r3 with hrc | ⟨c, t, hrc⟩
            · have e0 := bs_nil hrc
              rw [hrc] at HF2
              clear hrc
              go_wp2_with fail
              go_ret
              exact ⟨by rw [← HF2.out]; rfl, HB4.out⟩
            · obtain ⟨hsz, hg, hem, h0i, h1i, htl⟩ := bs_head hrc
              rw [hrc] at HF2
              clear hrc htl
              go_wp2_with fail
              go_ret
              exact ⟨by rw [← HF2.out]; rfl, HB4.out⟩
end Go.Proofs.YtagiddbfhlokcaaGreatDoor
/- A quoted text is read: value's unquote. Condition: the text's length. -/
namespace Go.Proofs.YtagiddbfhlokcaaGreatDoor
open Go.RowKit
set_option maxRecDepth 100000
/-- A value, of the program's type. -/
def val (k b : Int) (t : ByteArray) : Value := .agg #[.int .i64 k, .int .u64 b, .string t]
/-- A quoted text's value, and the error's number. -/
def unqV (o : Option (List UInt8)) : Value × Int := match o with
  | none => (val 0 0 ⟨#[]⟩, 2)
  | some t => if 65536 < t.length then (val 0 0 ⟨#[]⟩, 4) else (val 4 0 (bs t), 0)
theorem unq_close (d : UInt8) (t : List UInt8) : PF.unq (34 :: d :: t) = none := by unfold PF.unq; rw [if_pos (.inl rfl)]
theorem unq_line (t : List UInt8) : PF.unq (10 :: t) = none := by
  cases t with
  | nil => rfl
  | cons d t => unfold PF.unq; rw [if_pos (.inr rfl)]
theorem unq_esc (d : UInt8) (t : List UInt8) : PF.unq (92 :: d :: t) = (if d = 34 ∨ d = 92 then (PF.unq t).map (d :: ·) else if d = 110 then (PF.unq t).map (10 :: ·) else none) := by
  conv => lhs; unfold PF.unq
  rw [if_neg (by decide), if_pos rfl]
theorem unq_plain (c : UInt8) (t : List UInt8) (h1 : c ≠ 34) (h2 : c ≠ 10) (h3 : c ≠ 92) : PF.unq (c :: t) = (PF.unq t).map (c :: ·) := by
  cases t with
  | nil => unfold PF.unq; rw [if_neg h1]; rfl
  | cons d t =>
    conv => lhs; unfold PF.unq
    rw [if_neg (by simp [h1, h2]), if_neg h3]
theorem byteCells_app (l : List UInt8) (c : UInt8) : Lib.byteCells (l ++ [c]) = Lib.byteCells l ++ [.int .u8 c.toNat] := by
  simp [Lib.byteCells]
theorem byteCells_len (l : List UInt8) : (Lib.byteCells l).length = l.length := by simp [Lib.byteCells]
theorem idxE (d : UInt8) (w : World) : Calls Tryz.prog 70 #[.string ⟨#[34, 92, 110]⟩, .int .u8 d.toNat] w fun e w' => e = .returned (.int .i64 (if d = 34 then 0 else if d = 92 then 1 else if d = 110 then 2 else -1)) ∧ w = w' := by
  refine (Tryz.strings_IndexByte ⟨#[34, 92, 110]⟩ d.toNat w).mono ?_
  rintro e w' ⟨rfl, h⟩
  refine ⟨?_, h.symm⟩
  have : ((d.toNat : Int).toNat.toUInt8) = d := by simp
  rw [this]
  congr 2
  have key : ∀ n : Fin 256, (Lib.indexByte [34, 92, 110] (UInt8.ofNat n.val)) = (if UInt8.ofNat n.val = 34 then (0 : Int) else if UInt8.ofNat n.val = 92 then 1 else if UInt8.ofNat n.val = 110 then 2 else -1) := by decide +kernel
  have := key ⟨d.toNat, d.toNat_lt⟩
  simpa using this
def InUnq (r : List UInt8) (B : Nat) (w : World) (v : Value) (wr : World) : Prop :=
  ∃ (t l : List UInt8), v = .string (bs t) ∧ PF.unq r = (PF.unq t).map (l ++ ·) ∧ l.length + t.length ≤ r.length ∧ Lib.IsBuilder 117 5 B B (Lib.byteCells l) wr ∧ Below B w wr
def sizeOfV : Value → Nat
  | .string t => t.size
  | _ => 0
theorem map_app (o : Option (List UInt8)) (l : List UInt8) (c : UInt8) : (o.map (c :: ·)).map (l ++ ·) = o.map ((l ++ [c]) ++ ·) := by
  cases o <;> simp
theorem byte_eq (c : UInt8) (n : Nat) (hn : n < 256) (h : c = UInt8.ofNat n) : ((c.toNat : Int) == (n : Int)) = true := by
  subst h; simp; omega
theorem byte_ne (c : UInt8) (n : Nat) (hn : n < 256) (h : c ≠ UInt8.ofNat n) : ((c.toNat : Int) == (n : Int)) = false := by
  rw [beq_eq_false_iff_ne]
  intro e
  apply h
  apply UInt8.toNat_inj.1
  simp
  omega
theorem heap_setCell_same (w : World) (B k : Nat) (cs : Array Value) (T : TypeId) (u : Value) (h : w.heap[B]? = some (.cells cs T (0, 0))) : (w.setCell ⟨B, k, none⟩ u).heap[B]? = some (.cells (cs.setIfInBounds k u) T (0, 0)) := by
  simp [World.setCell, Array.getElem?_modify, h]
theorem results53 {F : Func} (hF : F.results = #[.cell 2 53, .tmp 3]) {tmps : Array Value} {wr : World} {B : Nat} {x y z a b c : Value} (hb : tmps.getD 2 undef = .pointer (some ⟨B, 0, none⟩)) (hk : wr.heap[B]? = some (.cells #[a, b, c] 53 (0, 0))) :
    (results F tmps).run Tryz.prog (((wr.setCell ⟨B, 0, none⟩ x).setCell ⟨B, 1, none⟩ y).setCell ⟨B, 2, none⟩ z) = .ok (.tuple #[.agg #[x, y, z], tmps.getD 3 undef]) (((wr.setCell ⟨B, 0, none⟩ x).setCell ⟨B, 1, none⟩ y).setCell ⟨B, 2, none⟩ z) := by
  have h1 := heap_setCell_same _ B 0 _ _ x hk
  have h2 := heap_setCell_same _ B 1 _ _ y h1
  have h3 := heap_setCell_same _ B 2 _ _ z h2
  obtain ⟨w2, hw⟩ : ∃ w2, ((wr.setCell ⟨B, 0, none⟩ x).setCell ⟨B, 1, none⟩ y).setCell ⟨B, 2, none⟩ z = w2 := ⟨_, rfl⟩
  rw [hw] at h3 ⊢
  have c0 : w2.cell? ⟨B, 0, none⟩ = some x := Lib.cell_of_heap h3 0
  have c1 : w2.cell? ⟨B, 1, none⟩ = some y := Lib.cell_of_heap h3 1
  have c2 : w2.cell? ⟨B, 2, none⟩ = some z := Lib.cell_of_heap h3 2
  have hb' : tmps[2]?.getD undef = .pointer (some ⟨B, 0, none⟩) := by simpa using hb
  simp [results, hF, hb', c0, c1, c2, go_sem]
/-- The result's cells, behind the loop. -/
theorem resFacts {w w' : World} (h : Below (w.heap.size + 1) (w.alloc (.cells #[.int .i64 0, .int .u64 0, .string ⟨#[]⟩] 53 (0, 0))) w') :
    w'.cell? ⟨w.heap.size, 0, none⟩ = some (.int .i64 0) ∧ w'.cell? ⟨w.heap.size, 1, none⟩ = some (.int .u64 0) ∧ w'.cell? ⟨w.heap.size, 2, none⟩ = some (.string ⟨#[]⟩) ∧
    w'.frozen? ⟨w.heap.size, 0, none⟩ = false ∧ w'.frozen? ⟨w.heap.size, 1, none⟩ = false ∧ w'.frozen? ⟨w.heap.size, 2, none⟩ = false ∧ w'.heap[w.heap.size]? = some (.cells #[.int .i64 0, .int .u64 0, .string ⟨#[]⟩] 53 (0, 0)) ∧ Below w.heap.size w w' := by
  have hb : w'.heap[w.heap.size]? = some (.cells #[.int .i64 0, .int .u64 0, .string ⟨#[]⟩] 53 (0, 0)) := by
    rw [h.block _ (by omega)]
    show (w.heap.push _)[w.heap.size]? = _
    rw [Array.getElem?_push_size]
  have hs := h.size
  simp only [World.size_alloc] at hs
  exact ⟨Lib.cell_of_heap hb 0, Lib.cell_of_heap hb 1, Lib.cell_of_heap hb 2, Lib.frozen_of_heap hb 0, Lib.frozen_of_heap hb 1, Lib.frozen_of_heap hb 2, hb, ((Below.refl _ _).alloc (Nat.le_refl _) _).trans (h.mono (by omega))⟩
set_option maxHeartbeats 4000000 in
theorem unquote56 (a : UInt8) (r : List UInt8) (hr : r.length ≤ 140737488355327) (w : World) : Calls Tryz.prog 56 #[.string (bs (a :: r))] w fun e w' => e = .returned (.tuple #[(unqV (PF.unq r)).1, .int .i64 (unqV (PF.unq r)).2]) ∧ Below w.heap.size w w' := by
  obtain ⟨hsz0, hg0, hem0, h0i0, h1i0, htl0⟩ := bs_head (r := a :: r) rfl
  go_enter Tryz.func56, Tryz.ntmps56
  have W2 : Below w.heap.size w w := Below.refl _ _
  go_wp2_with fail
  go_loopw [5] (fun v wr => InUnq r (w.heap.size + 1) (w.alloc (.cells #[.int .i64 0, .int .u64 0, .string ⟨#[]⟩] 53 (0, 0))) v wr) (fun v _ => sizeOfV v)
  case atStart => 
    refine ⟨r, [], rfl, by cases PF.unq r <;> rfl, by simp, ?_, (Below.refl _ _).alloc (by simp) _⟩
    have := Lib.fresh_isBuilder 117 5 (w.alloc (.cells #[.int .i64 0, .int .u64 0, .string ⟨#[]⟩] 53 (0, 0)))
    simp only [World.size_alloc] at this
    exact this
  case round =>
    obtain ⟨t, l, rfl, hun, hle, hbd, hb⟩ := hrel
    have HD := Lib.hid hbd
    have HB := Lib.hid hb
    have HUN := Lib.hid hun
    have hsz := HB.out.size
    simp only [World.size_alloc] at hsz
    clear hbd hb hun
    rcases list_cases t with e | ⟨c, u, e⟩
    · have e0 := bs_nil e
      have HUN2 : Hid (PF.unq r = none) := Lib.hid (by rw [HUN.out, e]; rfl)
      clear e
      obtain ⟨f0, f1, f2, g0, g1, g2, hk, hbw⟩ := resFacts HB.out
      have HBW := Lib.hid hbw
      have HK := Lib.hid hk
      clear hbw hk
      go_wp2_with fail
      refine bodyPost_ret (results53 (F := Tryz.f56) rfl rfl HK.out) rfl ?_
      exact ⟨by rw [HUN2.out]; rfl, ((HBW.out.setCell (Nat.le_refl _) _).setCell (Nat.le_refl _) _).setCell (Nat.le_refl _) _⟩
    · obtain ⟨hp, hg, hem, h0i, h1i, htl⟩ := bs_head e
      rw [e] at HUN
      have htlen : t.length = u.length + 1 := by rw [e]; rfl
      clear e
      by_cases h34 : c = 34
      · have c34 := byte_eq c 34 (by decide) h34
        subst h34
        rcases list_cases u with e | ⟨d, v, e⟩
        · have e0 := bs_nil e
          have HUN2 : Hid (PF.unq r = some l) := Lib.hid (by rw [HUN.out, e]; simp [PF.unq])
          clear e
          obtain ⟨f0, f1, f2, g0, g1, g2, hk, hbw⟩ := resFacts HB.out
          have HBW := Lib.hid hbw
          have HK := Lib.hid hk
          clear hbw hk
          go_wp2_with fail
          refine (Tryz.Builder_Len (w.heap.size + 1) (w.heap.size + 1) _ wr HD.out).mono ?_
          rintro e w1 ⟨rfl, rfl⟩
          have hbl : (Lib.byteCells l).length = l.length := byteCells_len l
          rw [hbl]
          by_cases hlen : 65536 < l.length
          · have hlz : (65536 : Int) < (l.length : Int) := by omega
            go_wp2_with fail
            refine bodyPost_ret (results53 (F := Tryz.f56) rfl rfl HK.out) rfl ?_
            exact ⟨by rw [HUN2.out]; simp only [unqV]; rw [if_pos hlen]; rfl, ((HBW.out.setCell (Nat.le_refl _) _).setCell (Nat.le_refl _) _).setCell (Nat.le_refl _) _⟩
          · have hlz : ¬((65536 : Int) < (l.length : Int)) := by omega
            go_wp2_with fail
            refine (Tryz.Builder_String_any (w.heap.size + 1) (w.heap.size + 1) _ _ HD.out hsz).mono ?_
            rintro e w2 ⟨rfl, hb2⟩
            have HB2 := Lib.hid (HB.out.trans hb2)
            clear f0 f1 f2 g0 g1 g2 hb2 HBW HK
            obtain ⟨f0, f1, f2, g0, g1, g2, hk, hbw⟩ := resFacts HB2.out
            have HBW := Lib.hid hbw
            have HK := Lib.hid hk
            clear hk hbw
            go_wp2_with fail
            refine bodyPost_ret (results53 (F := Tryz.f56) rfl rfl HK.out) rfl ?_
            exact ⟨by rw [HUN2.out]; simp only [unqV]; rw [if_neg hlen]; rfl, ((HBW.out.setCell (Nat.le_refl _) _).setCell (Nat.le_refl _) _).setCell (Nat.le_refl _) _⟩
        · obtain ⟨hp2, hg2, hem2, h0i2, h1i2, htl2⟩ := bs_head e
          have HUN2 : Hid (PF.unq r = none) := Lib.hid (by rw [HUN.out, e, unq_close]; rfl)
          clear e
          obtain ⟨f0, f1, f2, g0, g1, g2, hk, hbw⟩ := resFacts HB.out
          have HBW := Lib.hid hbw
          have HK := Lib.hid hk
          clear hbw hk
          go_wp2_with fail
          refine bodyPost_ret (results53 (F := Tryz.f56) rfl rfl HK.out) rfl ?_
          exact ⟨by rw [HUN2.out]; rfl, ((HBW.out.setCell (Nat.le_refl _) _).setCell (Nat.le_refl _) _).setCell (Nat.le_refl _) _⟩
      · have c34 := byte_ne c 34 (by decide) h34
        by_cases h10 : c = 10
        · have c10 := byte_eq c 10 (by decide) h10
          have HUN2 : Hid (PF.unq r = none) := Lib.hid (by rw [HUN.out, h10, unq_line]; rfl)
          clear h34 h10
          obtain ⟨f0, f1, f2, g0, g1, g2, hk, hbw⟩ := resFacts HB.out
          have HBW := Lib.hid hbw
          have HK := Lib.hid hk
          clear hbw hk
          go_wp2_with fail
          refine bodyPost_ret (results53 (F := Tryz.f56) rfl rfl HK.out) rfl ?_
          exact ⟨by rw [HUN2.out]; rfl, ((HBW.out.setCell (Nat.le_refl _) _).setCell (Nat.le_refl _) _).setCell (Nat.le_refl _) _⟩
        · have c10 := byte_ne c 10 (by decide) h10
          by_cases h92 : c = 92
          · have c92 := byte_eq c 92 (by decide) h92
            rw [h92] at HUN
            clear h34 h10 h92
            rcases list_cases u with e | ⟨d, v, e⟩
            · have e0 := bs_nil e
              have HUN2 : Hid (PF.unq r = none) := Lib.hid (by rw [HUN.out, e]; rfl)
              clear e
              obtain ⟨f0, f1, f2, g0, g1, g2, hk, hbw⟩ := resFacts HB.out
              have HBW := Lib.hid hbw
              have HK := Lib.hid hk
              clear hbw hk
              go_wp2_with fail
              refine bodyPost_ret (results53 (F := Tryz.f56) rfl rfl HK.out) rfl ?_
              exact ⟨by rw [HUN2.out]; rfl, ((HBW.out.setCell (Nat.le_refl _) _).setCell (Nat.le_refl _) _).setCell (Nat.le_refl _) _⟩
            · obtain ⟨hp2, hg2, hem2, h0i2, h1i2, htl2⟩ := bs_head e
              rw [e] at HUN
              have hul : u.length = v.length + 1 := by rw [e]; rfl
              clear e
              have M := Lib.hid (fun w => idxE d w)
              by_cases d34 : d = 34
              · rw [if_pos d34] at M
                clear c34
                have HUN3 : Hid (PF.unq r = ((PF.unq v).map (34 :: ·)).map (l ++ ·)) := Lib.hid (by rw [HUN.out, unq_esc, if_pos (.inl d34), d34])
                clear d34
                go_wp2_with fail
                refine (M.out _).mono ?_
                rintro e w1 ⟨rfl, rfl⟩
                go_wp2_with fail
                refine (writeByte (w.heap.size + 1) (w.heap.size + 1) _ (34) wr HD.out (by rw [byteCells_len]; omega) hsz).mono ?_
                rintro e w1 ⟨rfl, hd1, hb1⟩
                have HD1 := Lib.hid hd1
                have HB1 := Lib.hid hb1
                clear hd1 hb1
                go_wp2_with fail
                go_roundw
                case rel => exact ⟨v, l ++ [34], rfl, by rw [HUN3.out, map_app], by simp; omega, .inr (by rw [byteCells_app]; exact HD1.out), HB.out.trans HB1.out⟩
                case measure => simp [sizeOfV, bs_size]; omega
              · by_cases d92 : d = 92
                · rw [if_neg d34, if_pos d92] at M
                  have HUN3 : Hid (PF.unq r = ((PF.unq v).map (92 :: ·)).map (l ++ ·)) := Lib.hid (by rw [HUN.out, unq_esc, if_pos (.inr d92), d92])
                  clear d34 d92
                  go_wp2_with fail
                  refine (M.out _).mono ?_
                  rintro e w1 ⟨rfl, rfl⟩
                  go_wp2_with fail
                  refine (writeByte (w.heap.size + 1) (w.heap.size + 1) _ (92) wr HD.out (by rw [byteCells_len]; omega) hsz).mono ?_
                  rintro e w1 ⟨rfl, hd1, hb1⟩
                  have HD1 := Lib.hid hd1
                  have HB1 := Lib.hid hb1
                  clear hd1 hb1
                  go_wp2_with fail
                  go_roundw
                  case rel => exact ⟨v, l ++ [92], rfl, by rw [HUN3.out, map_app], by simp; omega, .inr (by rw [byteCells_app]; exact HD1.out), HB.out.trans HB1.out⟩
                  case measure => simp [sizeOfV, bs_size]; omega
                · by_cases d110 : d = 110
                  · rw [if_neg d34, if_neg d92, if_pos d110] at M
                    have HUN3 : Hid (PF.unq r = ((PF.unq v).map (10 :: ·)).map (l ++ ·)) := Lib.hid (by rw [HUN.out, unq_esc, if_neg (by simp [d34, d92]), if_pos d110])
                    clear d34 d92 d110
                    go_wp2_with fail
                    refine (M.out _).mono ?_
                    rintro e w1 ⟨rfl, rfl⟩
                    go_wp2_with fail
                    refine (writeByte (w.heap.size + 1) (w.heap.size + 1) _ (10) wr HD.out (by rw [byteCells_len]; omega) hsz).mono ?_
                    rintro e w1 ⟨rfl, hd1, hb1⟩
                    have HD1 := Lib.hid hd1
                    have HB1 := Lib.hid hb1
                    clear hd1 hb1
                    go_wp2_with fail
                    go_roundw
                    case rel => exact ⟨v, l ++ [10], rfl, by rw [HUN3.out, map_app], by simp; omega, .inr (by rw [byteCells_app]; exact HD1.out), HB.out.trans HB1.out⟩
                    case measure => simp [sizeOfV, bs_size]; omega
                  · rw [if_neg d34, if_neg d92, if_neg d110] at M
                    have HUN3 : Hid (PF.unq r = none) := Lib.hid (by rw [HUN.out, unq_esc, if_neg (by simp [d34, d92]), if_neg d110]; rfl)
                    clear d34 d92 d110
                    go_wp2_with fail
                    refine (M.out _).mono ?_
                    rintro e w1 ⟨rfl, rfl⟩
                    obtain ⟨f0, f1, f2, g0, g1, g2, hk, hbw⟩ := resFacts HB.out
                    have HBW := Lib.hid hbw
                    have HK := Lib.hid hk
                    clear hbw hk
                    go_wp2_with fail
                    refine bodyPost_ret (results53 (F := Tryz.f56) rfl rfl HK.out) rfl ?_
                    exact ⟨by rw [HUN3.out]; rfl, ((HBW.out.setCell (Nat.le_refl _) _).setCell (Nat.le_refl _) _).setCell (Nat.le_refl _) _⟩
          · have c92 := byte_ne c 92 (by decide) h92
            have HUN3 : Hid (PF.unq r = ((PF.unq u).map (c :: ·)).map (l ++ ·)) := Lib.hid (by rw [HUN.out, unq_plain c u h34 h10 h92])
            clear h34 h10 h92
            go_wp2_with fail
            refine (writeByte (w.heap.size + 1) (w.heap.size + 1) _ ((c.toNat : Int)) wr HD.out (by rw [byteCells_len]; omega) hsz).mono ?_
            rintro e w1 ⟨rfl, hd1, hb1⟩
            have HD1 := Lib.hid hd1
            have HB1 := Lib.hid hb1
            clear hd1 hb1
            go_wp2_with fail
            go_roundw
            case rel => exact ⟨u, l ++ [c], rfl, by rw [HUN3.out, map_app], by simp; omega, .inr (by rw [byteCells_app]; exact HD1.out), HB.out.trans HB1.out⟩
            case measure => simp [sizeOfV, bs_size]; omega

end Go.Proofs.YtagiddbfhlokcaaGreatDoor
