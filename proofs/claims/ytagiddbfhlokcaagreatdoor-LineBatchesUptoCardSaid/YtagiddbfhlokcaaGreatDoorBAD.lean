/- Several texts of this proof, laid together. Conditions: as each says. -/
import Derived.Test.YtagiddbfhlokcaaGreatDoorBAC
import Derived.Sort.Walk0
/- A name's text is taken off a text's head: the plain law, and Cut's walk. Condition: the text's length. -/
namespace Go.Proofs.YtagiddbfhlokcaaGreatDoor.Ser
open Go.RowKit Go.Sort
/-- What stands at a text's head, behind what was gathered, and what is left; none: a backslash with nothing special behind it. -/
def scan (acc : List UInt8) : List UInt8 → Option (List UInt8 × List UInt8)
  | [] => some (acc, [])
  | [c] => if c.toNat = 92 then none else if spec c then some (acc, [c]) else some (acc ++ [c], [])
  | c :: d :: l => if c.toNat = 92 then (if spec d then scan (acc ++ [d]) l else none) else if spec c then some (acc, c :: d :: l) else scan (acc ++ [c]) (d :: l)
theorem scan_plain (acc : List UInt8) (c : UInt8) (l : List UInt8) (h : c.toNat ≠ 92) (hs : spec c = false) : scan acc (c :: l) = scan (acc ++ [c]) l := by
  cases l with
  | nil => simp [scan, h, hs]
  | cons d l => rw [scan]; simp [h, hs]
theorem scan_stop (acc : List UInt8) (c : UInt8) (l : List UInt8) (h : c.toNat ≠ 92) (hs : spec c = true) : scan acc (c :: l) = some (acc, c :: l) := by
  cases l with
  | nil => simp [scan, h, hs]
  | cons d l => rw [scan]; simp [h, hs]
theorem scan_esc (acc : List UInt8) (c d : UInt8) (l : List UInt8) (h : c.toNat = 92) (hs : spec d = true) : scan acc (c :: d :: l) = scan (acc ++ [d]) l := by
  rw [scan]; simp [h, hs]
theorem scan_bad (acc : List UInt8) (c d : UInt8) (l : List UInt8) (h : c.toNat = 92) (hs : spec d = false) : scan acc (c :: d :: l) = none := by
  rw [scan]; simp [h, hs]
theorem scan_end (acc : List UInt8) (c : UInt8) (h : c.toNat = 92) : scan acc [c] = none := by
  simp [scan, h]
theorem tail_of (t : ByteArray) (h : 0 < t.size) : t.data.toList = t[0] :: (t.extract 1 t.size).data.toList := by
  have h1 : t.data.toList = t.data.toList.take 1 ++ t.data.toList.drop 1 := (List.take_append_drop 1 _).symm
  have h2 : t.data.toList.take 1 = [t[0]] := by
    have := take_snoc t 0 h
    simpa using this
  rw [h1, h2]
  simp [ByteArray.data_extract]
  exact (List.take_of_length_le (by simp)).symm
theorem empty_of (t : ByteArray) (h : t.size = 0) : t.data.toList = [] := List.eq_nil_of_length_eq_zero (by simpa using h)
def ofL (l : List UInt8) : ByteArray := ⟨l.toArray⟩
theorem ofL_toList (t : ByteArray) : ofL t.data.toList = t := by simp [ofL]
def CutPost (o : Option (List UInt8 × List UInt8)) (w : World) (e : Ending) (w' : World) : Prop :=
  Below w.heap.size w w' ∧ match o with
    | some (b, r) => e = .returned (.tuple #[.string (ofL b), .string (ofL r), .bool true])
    | none => ∃ t, e = .returned (.tuple #[.string ⟨#[]⟩, .string t, .bool false])
def InCut (s : ByteArray) (w : World) (v : Value) (wr : World) : Prop :=
  ∃ (t : ByteArray) (l : List UInt8), v = .string t ∧ scan [] s.data.toList = scan l t.data.toList ∧ l.length + t.size ≤ s.size ∧ Lib.IsBuilder 117 5 w.heap.size w.heap.size (Lib.byteCells l) wr ∧ Below w.heap.size w wr
def sizeOfV : Value → Nat
  | .string t => t.size
  | _ => 0
set_option maxRecDepth 100000 in
theorem cut (s : ByteArray) (w : World) (hs : s.size ≤ 140737488355328) : Calls Tryz.prog 39 #[.string s] w (CutPost (scan [] s.data.toList) w) := by
  go_enter Tryz.func39, Tryz.ntmps39
  go_wp2
  go_loopw [0] (fun v wr => InCut s w v wr) (fun v _ => sizeOfV v)
  case atStart => exact ⟨s, [], rfl, rfl, by simp, Lib.fresh_isBuilder 117 5 w, (Below.refl _ _).alloc (Nat.le_refl _) _⟩
  case round =>
    obtain ⟨t, l, rfl, hsc, hle, hbd, hb⟩ := hrel
    have HD := Lib.hid hbd
    have HB := Lib.hid hb
    have HSC := Lib.hid hsc
    have hsz := HB.out.size
    clear hbd hb hsc
    by_cases h0 : t.size = 0
    · have hE := is_empty h0
      have HT := Lib.hid (empty_of t h0)
      clear h0
      go_wp2_with fail
      refine (Tryz.Builder_String_any w.heap.size w.heap.size _ wr HD.out hsz).mono ?_
      rintro e w1 ⟨rfl, hb1⟩
      have HB1 := Lib.hid hb1
      clear hb1
      go_wp2_with fail
      go_ret3
      refine ⟨HB.out.trans HB1.out, ?_⟩
      rw [HSC.out, HT.out]
      simp only [scan, ofL]
      rw [show t = ⟨#[]⟩ from ByteArray.ext (Array.toList_inj.1 HT.out)]
      rfl
    · have hpos : 0 < t.size := by omega
      have hE := not_empty (s := t) (by omega)
      have htl := tail_of t hpos
      obtain ⟨c, hc⟩ : ∃ c, t[0] = c := ⟨_, rfl⟩
      obtain ⟨t1, ht1⟩ : ∃ t1, t.extract 1 t.size = t1 := ⟨_, rfl⟩
      rw [hc, ht1] at htl
      have HT := Lib.hid htl
      have hs1 : t1.size + 1 = t.size := by
        have := congrArg List.length htl
        simp at this
        omega
      clear htl h0
      by_cases h92 : c.toNat = 92
      · have hc92 : ((c.toNat : Int) == 92) = true := by simp; omega
        have H92 := Lib.hid h92
        clear h92
        by_cases h1 : t1.size = 0
        · have hE1 := is_empty h1
          have HT1 := Lib.hid (empty_of t1 h1)
          clear h1
          go_wp2_with fail
          go_ret3
          refine ⟨HB.out, ?_⟩
          rw [HSC.out, HT.out, HT1.out, scan_end _ _ H92.out]
          exact ⟨_, rfl⟩
        · have hpos1 : 0 < t1.size := by omega
          have hE1 := not_empty (s := t1) (by omega)
          have htl := tail_of t1 hpos1
          obtain ⟨d, hd⟩ : ∃ d, t1[0] = d := ⟨_, rfl⟩
          obtain ⟨t2, ht2⟩ : ∃ t2, t1.extract 1 t1.size = t2 := ⟨_, rfl⟩
          rw [hd, ht2] at htl
          have HT1 := Lib.hid htl
          have hs2 : t2.size + 1 = t1.size := by
            have := congrArg List.length htl
            simp at this
            omega
          clear htl h1
          cases hsp : spec d with
          | true =>
            have HS := Lib.hid hsp
            clear hsp
            obtain ⟨n, hn, hcall⟩ := idx_yes d HS.out
            have HCL := Lib.hid hcall
            have hn0 : ¬ n < 0 := by omega
            clear hcall hn
            go_wp2_with fail
            refine (HCL.out _).mono ?_
            rintro e w1 ⟨rfl, rfl⟩
            go_wp2_with fail
            refine (writeByte w.heap.size w.heap.size _ (d.toNat : Int) wr HD.out (by rw [byteCells_len]; omega) hsz).mono ?_
            rintro e w1 ⟨rfl, hd1, hb1⟩
            have HD1 := Lib.hid hd1
            have HB1 := Lib.hid hb1
            clear hd1 hb1
            go_wp2_with fail
            go_roundw
            case rel => exact ⟨t2, l ++ [d], rfl, by rw [HSC.out, HT.out, HT1.out, scan_esc _ _ _ _ H92.out HS.out], by simp; omega, .inr (by rw [byteCells_app]; simpa [Lib.byteCells] using HD1.out), HB.out.trans HB1.out⟩
            case measure => simp [sizeOfV]; omega
          | false =>
            have HS := Lib.hid hsp
            clear hsp
            go_wp2_with fail
            refine (idx_no d HS.out _).mono ?_
            rintro e w1 ⟨rfl, rfl⟩
            go_wp2_with fail
            go_ret3
            refine ⟨HB.out, ?_⟩
            rw [HSC.out, HT.out, HT1.out, scan_bad _ _ _ _ H92.out HS.out]
            exact ⟨_, rfl⟩
      · have hc92 : ((c.toNat : Int) == 92) = false := by simp; omega
        have H92 := Lib.hid h92
        clear h92
        cases hsp : spec c with
        | true =>
          have HS := Lib.hid hsp
          clear hsp
          obtain ⟨n, hn, hcall⟩ := idx_yes c HS.out
          have HCL := Lib.hid hcall
          have hn0 : ¬ n < 0 := by omega
          clear hcall hn
          go_wp2_with fail
          refine (HCL.out _).mono ?_
          rintro e w1 ⟨rfl, rfl⟩
          go_wp2_with fail
          refine (Tryz.Builder_String_any w.heap.size w.heap.size _ wr HD.out hsz).mono ?_
          rintro e w1 ⟨rfl, hb1⟩
          have HB1 := Lib.hid hb1
          clear hb1
          go_wp2_with fail
          go_ret3
          refine ⟨HB.out.trans HB1.out, ?_⟩
          rw [HSC.out, HT.out, scan_stop _ _ _ H92.out HS.out, ← HT.out]
          simp only [ofL_toList]
          rfl
        | false =>
          have HS := Lib.hid hsp
          clear hsp
          go_wp2_with fail
          refine (idx_no c HS.out _).mono ?_
          rintro e w1 ⟨rfl, rfl⟩
          go_wp2_with fail
          refine (writeByte w.heap.size w.heap.size _ (c.toNat : Int) wr HD.out (by rw [byteCells_len]; omega) hsz).mono ?_
          rintro e w1 ⟨rfl, hd1, hb1⟩
          have HD1 := Lib.hid hd1
          have HB1 := Lib.hid hb1
          clear hd1 hb1
          go_wp2_with fail
          go_roundw
          case rel => exact ⟨t1, l ++ [c], rfl, by rw [HSC.out, HT.out, scan_plain _ _ _ H92.out HS.out], by simp; omega, .inr (by rw [byteCells_app]; simpa [Lib.byteCells] using HD1.out), HB.out.trans HB1.out⟩
          case measure => simp [sizeOfV]; omega
end Go.Proofs.YtagiddbfhlokcaaGreatDoor.Ser
/- A name's text is taken off a text from a place on, by the reference. Condition: the text's length. -/
namespace Go.Proofs.YtagiddbfhlokcaaGreatDoor.Ser
open Go.RowKit Go.Sort
theorem drop_cons (s : ByteArray) (k : Nat) (h : k < s.size) : s.data.toList.drop k = s[k] :: s.data.toList.drop (k + 1) := by
  rw [List.drop_eq_getElem_cons (by simpa using h)]; rfl
def PartPost (s : ByteArray) (o : Option (List UInt8 × List UInt8)) (w : World) (e : Ending) (w' : World) : Prop :=
  Below w.heap.size w w' ∧ match o with
    | some (b, r) => e = .returned (.tuple #[.string (ofL b), .int .i64 ((s.size - r.length : Nat) : Int), .bool true])
    | none => ∃ z, e = .returned (.tuple #[.string ⟨#[]⟩, .int .i64 z, .bool false])
def InPart (s : ByteArray) (k0 : Nat) (w : World) (i v : Value) (wr : World) : Prop :=
  ∃ (k : Nat) (l : List UInt8), i = .int .i64 k ∧ k ≤ s.size ∧ True ∧ scan [] (s.data.toList.drop k0) = scan l (s.data.toList.drop k) ∧ l.length ≤ k ∧ BOwn wr w.heap.size v l ∧ Below w.heap.size w wr
set_option maxRecDepth 100000 in
set_option maxHeartbeats 1000000 in
theorem part (s : ByteArray) (k0 : Nat) (w : World) (hs : s.size ≤ 140737488355328) (hk0 : k0 ≤ s.size) : Calls Tryz.prog 33 #[.string s, .int .i64 k0] w (PartPost s (scan [] (s.data.toList.drop k0)) w) := by
  obtain ⟨i0, hi, hz0, hz1, hz2⟩ := info_parts info5b
  have HI := Lib.hid hi
  have HZ0 := Lib.hid hz0
  have HZ1 := Lib.hid hz1
  have HZ2 := Lib.hid hz2
  clear hi hz0 hz1 hz2
  go_enter Tryz.func33, Tryz.ntmps33
  go_wp2
  go_loopw [1, 7] (fun i v wr => InPart s k0 w i v wr) (fun i _ _ => s.size - (intOf i).toNat)
  case atStart => exact ⟨k0, [], rfl, hk0, trivial, rfl, Nat.zero_le _, BOwn.nil _ _, Below.refl _ _⟩
  case round =>
    obtain ⟨k, l, rfl, hk, _, hsc, hle, hown, hb⟩ := hrel
    have HO := Lib.hid hown
    have HB := Lib.hid hb
    have HSC := Lib.hid hsc
    have hsz := HB.out.size
    clear hown hb hsc
    by_cases hlt : k < s.size
    · obtain ⟨c, hcc⟩ : ∃ c, s[k] = c := ⟨_, rfl⟩
      have HT := Lib.hid (drop_cons s k hlt)
      rw [hcc] at HT
      by_cases h92 : c.toNat = 92
      · have hc92 : ((c.toNat : Int) == 92) = true := by simp; omega
        have H92 := Lib.hid h92
        clear h92
        by_cases h1 : k + 1 < s.size
        · obtain ⟨d, hdd⟩ : ∃ d, s[k + 1] = d := ⟨_, rfl⟩
          have HT1 := Lib.hid (drop_cons s (k + 1) h1)
          rw [hdd] at HT1
          have h1i : ¬ (s.size : Int) ≤ (k : Int) + 1 := by omega
          cases hsp : spec d with
          | true =>
            have HS := Lib.hid hsp
            clear hsp
            go_wp2_with fail
            refine (special d _).mono ?_
            rw [HS.out]
            rintro e w1 ⟨rfl, rfl⟩
            go_wp2_with ((at_builtin; refine wpList_append_own _ rfl (.tmp 32) (.tmp 37) 59 rfl w.heap.size 5 i0 _ 1 1 Tryz.underlying59 HI.out HZ0.out HZ1.out HZ2.out rfl (by omega) _ l.length _ rfl (World.ownsRow.alloc HO.out _) ⟨wr.heap.size, 0, none⟩ 1 1 [.int .u8 d.toNat] rfl rfl (World.news_of_block (cs := #[.int .u8 d.toNat]) (t := 5) (fr := (0, 0)) (heap_alloc_new wr _)) (by simp [Value.oneCell']) (by unfold maxLen; omega) (by omega) (by simp; omega) ?_; intro v1 w2 hown1 hgrow1 hnn; clear hnn))
            have hb2 := (HB.out.alloc hsz _).grown hgrow1 (by simp; omega) (fun j hj => own_ge HO.out hj)
            have HO1 := Lib.hid hown1
            have HB2 := Lib.hid hb2
            clear hb2 hown1 hgrow1
            go_wp2_with fail
            go_roundw
            case rel => exact ⟨k + 2, l ++ [d], rfl, by omega, by go_num, by rw [HSC.out, HT.out, HT1.out, scan_esc _ _ _ _ H92.out HS.out], by simp; omega, BOwn.snoc HO1.out rfl rfl, HB2.out⟩
            case measure => simp [intOf]; omega
          | false =>
            have HS := Lib.hid hsp
            clear hsp
            go_wp2_with fail
            refine (special d _).mono ?_
            rw [HS.out]
            rintro e w1 ⟨rfl, rfl⟩
            go_wp2_with fail
            go_ret3
            refine ⟨HB.out, ?_⟩
            rw [HSC.out, HT.out, HT1.out, scan_bad _ _ _ _ H92.out HS.out]
            exact ⟨_, rfl⟩
        · have h1i : (s.size : Int) ≤ (k : Int) + 1 := by omega
          have HE := Lib.hid (show s.data.toList.drop (k + 1) = [] from List.drop_eq_nil_of_le (by simp; omega))
          go_wp2_with fail
          go_ret3
          refine ⟨HB.out, ?_⟩
          rw [HSC.out, HT.out, HE.out, scan_end _ _ H92.out]
          exact ⟨_, rfl⟩
      · have hc92 : ((c.toNat : Int) == 92) = false := by simp; omega
        have H92 := Lib.hid h92
        clear h92
        cases hsp : spec c with
        | true =>
          have HS := Lib.hid hsp
          clear hsp
          have hcv := str_of_own HO.out
          go_wp2_with fail
          refine (special c _).mono ?_
          rw [HS.out]
          rintro e w1 ⟨rfl, rfl⟩
          go_wp2_with fail
          go_ret3
          refine ⟨HB.out, ?_⟩
          rw [HSC.out, HT.out, scan_stop _ _ _ H92.out HS.out, ← HT.out]
          have : (s.data.toList.drop k).length = s.size - k := by simp
          simp only [this]
          rw [show s.size - (s.size - k) = k by omega]
          rfl
        | false =>
          have HS := Lib.hid hsp
          clear hsp
          go_wp2_with fail
          refine (special c _).mono ?_
          rw [HS.out]
          rintro e w1 ⟨rfl, rfl⟩
          go_wp2_with ((at_builtin; refine wpList_append_own _ rfl (.tmp 43) (.tmp 45) 59 rfl w.heap.size 5 i0 _ 1 1 Tryz.underlying59 HI.out HZ0.out HZ1.out HZ2.out rfl (by omega) _ l.length _ rfl (World.ownsRow.alloc HO.out _) ⟨wr.heap.size, 0, none⟩ 1 1 [.int .u8 c.toNat] rfl rfl (World.news_of_block (cs := #[.int .u8 c.toNat]) (t := 5) (fr := (0, 0)) (heap_alloc_new wr _)) (by simp [Value.oneCell']) (by unfold maxLen; omega) (by omega) (by simp; omega) ?_; intro v1 w2 hown1 hgrow1 hnn; clear hnn))
          have hb2 := (HB.out.alloc hsz _).grown hgrow1 (by simp; omega) (fun j hj => own_ge HO.out hj)
          have HO1 := Lib.hid hown1
          have HB2 := Lib.hid hb2
          clear hb2 hown1 hgrow1
          go_wp2_with fail
          go_roundw
          case rel => exact ⟨k + 1, l ++ [c], rfl, by omega, by go_num, by rw [HSC.out, HT.out, scan_plain _ _ _ H92.out HS.out], by simp; omega, BOwn.snoc HO1.out rfl rfl, HB2.out⟩
          case measure => simp [intOf]; omega
    · have hke : k = s.size := by omega
      have HE := Lib.hid (show s.data.toList.drop k = [] from List.drop_eq_nil_of_le (by simp; omega))
      have HK := Lib.hid hke
      have hcv := str_of_own HO.out
      clear hke
      go_wp2_with fail
      go_ret3
      refine ⟨HB.out, ?_⟩
      rw [HSC.out, HE.out]
      simp only [scan, List.length_nil, Nat.sub_zero]
      rw [HK.out]
      rfl
end Go.Proofs.YtagiddbfhlokcaaGreatDoor.Ser
/- The plain law of a series' parsing. No condition. -/
namespace Go.Proofs.YtagiddbfhlokcaaGreatDoor.Ser
open Go.RowKit Go.Sort
abbrev Tg := ByteArray × ByteArray
def kOf (L : List Tg) (i : Nat) : ByteArray := (L.getD i (⟨#[]⟩, ⟨#[]⟩)).1
def vOf (L : List Tg) (i : Nat) : ByteArray := (L.getD i (⟨#[]⟩, ⟨#[]⟩)).2
theorem scan_len : ∀ (n : Nat) {acc l b r : List UInt8}, l.length ≤ n → scan acc l = some (b, r) → r.length ≤ l.length ∧ b.length + r.length ≤ acc.length + l.length
  | n, acc, [], b, r, _, h => by
    simp [scan] at h
    obtain ⟨rfl, rfl⟩ := h
    simp
  | 0, acc, c :: l, b, r, hn, h => by simp at hn
  | n + 1, acc, c :: l, b, r, hn, h => by
    by_cases h92 : c.toNat = 92
    · cases l with
      | nil => rw [scan_end _ _ h92] at h; cases h
      | cons d l =>
        cases hs : spec d with
        | true =>
          rw [scan_esc _ _ _ _ h92 hs] at h
          have := scan_len n (by simp at hn; omega) h
          simp at this ⊢
          omega
        | false => rw [scan_bad _ _ _ _ h92 hs] at h; cases h
    · cases hs : spec c with
      | true =>
        rw [scan_stop _ _ _ h92 hs] at h
        simp at h
        obtain ⟨rfl, rfl⟩ := h
        simp
      | false =>
        rw [scan_plain _ _ _ h92 hs] at h
        have := scan_len n (by simp at hn; omega) h
        simp at this ⊢
        omega
def ploop (acc : List Tg) (r : List UInt8) : Option (List Tg × List UInt8) :=
  match r with
  | [] => some (acc, [])
  | c :: r1 =>
    if c.toNat = 44 then
      match h1 : scan [] r1 with
      | none => none
      | some (_, []) => none
      | some (kb, e :: r2) =>
        if e.toNat = 61 then
          match h2 : scan [] r2 with
          | none => none
          | some (vb, r3) => ploop (acc ++ [(ofL kb, ofL vb)]) r3
        else none
    else some (acc, c :: r1)
termination_by r.length
decreasing_by
  have a1 := (scan_len _ (Nat.le_refl _) h1).1
  have a2 := (scan_len _ (Nat.le_refl _) h2).1
  simp at a1 ⊢
  omega
theorem ploop_end (acc : List Tg) : ploop acc [] = some (acc, []) := by rw [ploop]
theorem ploop_stop (acc : List Tg) (c : UInt8) (r : List UInt8) (h : c.toNat ≠ 44) : ploop acc (c :: r) = some (acc, c :: r) := by rw [ploop]; simp [h]
theorem ploop_key_none (acc : List Tg) (c : UInt8) (r : List UInt8) (h : c.toNat = 44) (hk : scan [] r = none) : ploop acc (c :: r) = none := by
  rw [ploop, if_pos h]
  split
  · rfl
  · rfl
  · rename_i h1; rw [hk] at h1; cases h1
theorem ploop_key_end (acc : List Tg) (c : UInt8) (r kb : List UInt8) (h : c.toNat = 44) (hk : scan [] r = some (kb, [])) : ploop acc (c :: r) = none := by
  rw [ploop, if_pos h]
  split
  · rfl
  · rfl
  · rename_i h1; rw [hk] at h1; cases h1
theorem ploop_key_ne (acc : List Tg) (c e : UInt8) (r kb r2 : List UInt8) (h : c.toNat = 44) (hk : scan [] r = some (kb, e :: r2)) (he : e.toNat ≠ 61) : ploop acc (c :: r) = none := by
  rw [ploop, if_pos h]
  split
  · rfl
  · rfl
  · rename_i h1; rw [hk] at h1; cases h1; rw [if_neg he]
theorem ploop_val_none (acc : List Tg) (c e : UInt8) (r kb r2 : List UInt8) (h : c.toNat = 44) (hk : scan [] r = some (kb, e :: r2)) (he : e.toNat = 61) (hv : scan [] r2 = none) : ploop acc (c :: r) = none := by
  rw [ploop, if_pos h]
  split
  · rfl
  · rfl
  · rename_i h1; rw [hk] at h1; cases h1; rw [if_pos he]
    split
    · rfl
    · rename_i h2; rw [hv] at h2; cases h2
theorem ploop_step (acc : List Tg) (c e : UInt8) (r kb r2 vb r3 : List UInt8) (h : c.toNat = 44) (hk : scan [] r = some (kb, e :: r2)) (he : e.toNat = 61) (hv : scan [] r2 = some (vb, r3)) : ploop acc (c :: r) = ploop (acc ++ [(ofL kb, ofL vb)]) r3 := by
  rw [ploop, if_pos h]
  split
  · rename_i h1; rw [hk] at h1; cases h1
  · rename_i h1; rw [hk] at h1; cases h1
  · rename_i h1; rw [hk] at h1; cases h1; rw [if_pos he]
    split
    · rename_i h2; rw [hv] at h2; cases h2
    · rename_i h2; rw [hv] at h2; cases h2; rfl
theorem ploop_len : ∀ (n : Nat) {acc tags : List Tg} {r r' : List UInt8}, r.length ≤ n → ploop acc r = some (tags, r') → acc.length ≤ tags.length := by
  intro n
  induction n with
  | zero =>
    intro acc tags r r' hn h
    have : r = [] := List.eq_nil_of_length_eq_zero (by omega)
    subst this
    rw [ploop_end] at h
    cases h
    exact Nat.le_refl _
  | succ n ih =>
    intro acc tags r r' hn h
    cases r with
    | nil => rw [ploop_end] at h; cases h; exact Nat.le_refl _
    | cons c r =>
      by_cases h44 : c.toNat = 44
      · cases hk : scan [] r with
        | none => rw [ploop_key_none _ _ _ h44 hk] at h; cases h
        | some p =>
          obtain ⟨kb, q⟩ := p
          cases q with
          | nil => rw [ploop_key_end _ _ _ _ h44 hk] at h; cases h
          | cons e r2 =>
            by_cases h61 : e.toNat = 61
            · cases hv : scan [] r2 with
              | none => rw [ploop_val_none _ _ _ _ _ _ h44 hk h61 hv] at h; cases h
              | some p =>
                obtain ⟨vb, r3⟩ := p
                rw [ploop_step _ _ _ _ _ _ _ _ h44 hk h61 hv] at h
                have a1 := (scan_len _ (Nat.le_refl _) hk).1
                have a2 := (scan_len _ (Nat.le_refl _) hv).1
                simp at a1 hn
                have := ih (by omega) h
                simp at this
                omega
            · rw [ploop_key_ne _ _ _ _ _ _ h44 hk h61] at h; cases h
      · rw [ploop_stop _ _ _ h44] at h; cases h; exact Nat.le_refl _
def fin (name : ByteArray) (o : Option (List Tg × List UInt8)) : Option (ByteArray × List Tg) :=
  match o with
  | some (tags, []) => if formedB name tags.length (kOf tags) (vOf tags) then some (name, tags) else none
  | _ => none
def parse (t : List UInt8) : Option (ByteArray × List Tg) :=
  match scan [] t with
  | some (n, r) => fin (ofL n) (ploop [] r)
  | none => none
theorem fin_many (name : ByteArray) (acc : List Tg) (r : List UInt8) (h : 8 < acc.length) : fin name (ploop acc r) = none := by
  cases hp : ploop acc r with
  | none => rfl
  | some p =>
    obtain ⟨tags, r'⟩ := p
    have := ploop_len _ (Nat.le_refl _) hp
    cases r' with
    | nil =>
      simp only [fin]
      rw [if_neg]
      simp [formedB]
      intros
      omega
    | cons => rfl
end Go.Proofs.YtagiddbfhlokcaaGreatDoor.Ser
/- Rows of things with keys, put in order: plain lists. No condition. -/
namespace Go.Proofs.YtagiddbfhlokcaaGreatDoor.Ser
open Go.RowKit Go.Sort
variable {α : Type}
theorem lt_tri (a b : List UInt8) (h : ¬ a < b) (h' : ¬ b < a) : a = b := List.le_antisymm (List.not_lt.1 h') (List.not_lt.1 h)
/-- The list's elements rise by their keys; none's key is another's. -/
def Rise (key : α → List UInt8) (l : List α) : Prop := l.Pairwise fun a b => key a < key b
/-- No element's key is below that of one ahead. -/
def Weak (key : α → List UInt8) (l : List α) : Prop := l.Pairwise fun a b => ¬ key b < key a
theorem Rise.weak {key : α → List UInt8} {l : List α} (h : Rise key l) : Weak key l := h.imp fun hab hba => List.lt_irrefl _ (List.lt_trans hab hba)
/-- Two rows of the same things, one that rises, one in order: they are one. -/
theorem rise_eq {key : α → List UInt8} : ∀ {l m : List α}, Rise key l → Weak key m → l.Perm m → l = m
  | [], m, _, _, hp => (List.Perm.nil_eq hp)
  | a :: l, [], _, _, hp => absurd hp.length_eq (by simp)
  | a :: l, b :: m, hl, hm, hp => by
    have hl' := List.pairwise_cons.1 hl
    have hm' := List.pairwise_cons.1 hm
    have hb : b ∈ a :: l := hp.mem_iff.2 (by simp)
    have ha : a ∈ b :: m := hp.mem_iff.1 (by simp)
    have e : a = b := by
      rcases List.mem_cons.1 hb with h | h
      · exact h.symm
      · rcases List.mem_cons.1 ha with h2 | h2
        · exact h2
        · exact absurd (hl'.1 b h) (hm'.1 a h2)
    subst e
    rw [rise_eq hl'.2 hm'.2 (hp.cons_inv)]
/-- x is laid behind all whose keys are not above its own. -/
def ins (key : α → List UInt8) (x : α) : List α → List α
  | [] => [x]
  | y :: l => if key x < key y then x :: y :: l else y :: ins key x l
def srt (key : α → List UInt8) : List α → List α
  | [] => []
  | x :: l => ins key x (srt key l)
theorem ins_perm (key : α → List UInt8) (x : α) : ∀ l, (ins key x l).Perm (x :: l)
  | [] => .refl _
  | y :: l => by
    rw [ins]
    split
    · exact .refl _
    · exact ((ins_perm key x l).cons y).trans (.swap x y l)
theorem srt_perm (key : α → List UInt8) : ∀ l, (srt key l).Perm l
  | [] => .refl _
  | x :: l => (ins_perm key x _).trans ((srt_perm key l).cons x)
theorem nlt_trans {a b c : List UInt8} (h1 : ¬ b < a) (h2 : ¬ c < b) : ¬ c < a := by
  intro h
  rcases Classical.em (a < b) with h3 | h3
  · exact h2 (List.lt_trans h h3)
  · have := lt_tri a b h3 h1
    subst this
    exact h2 h
theorem ins_weak (key : α → List UInt8) (x : α) : ∀ l, Weak key l → Weak key (ins key x l)
  | [], _ => by simp [ins, Weak]
  | y :: l, h => by
    have h' := List.pairwise_cons.1 h
    rw [ins]
    split
    · rename_i hlt
      have hxy : ¬ key y < key x := fun e => List.lt_irrefl _ (List.lt_trans hlt e)
      refine List.pairwise_cons.2 ⟨fun z hz => ?_, h⟩
      rcases List.mem_cons.1 hz with rfl | hz
      · exact hxy
      · exact nlt_trans hxy (h'.1 z hz)
    · rename_i hlt
      refine List.pairwise_cons.2 ⟨fun z hz => ?_, ins_weak key x l h'.2⟩
      rcases List.mem_cons.1 ((ins_perm key x l).mem_iff.1 hz) with rfl | hz
      · exact hlt
      · exact h'.1 z hz
theorem srt_weak (key : α → List UInt8) : ∀ l, Weak key (srt key l)
  | [] => by simp [srt, Weak]
  | x :: l => ins_weak key x _ (srt_weak key l)
theorem srt_len (key : α → List UInt8) (l : List α) : (srt key l).length = l.length := (srt_perm key l).length_eq
/-- Of two rows of the same things, both in order, one rises just if the other does. -/
theorem rise_of_weak {key : α → List UInt8} {l m : List α} (hl : Rise key l) (hm : Weak key m) (hp : l.Perm m) : Rise key m := by
  rw [← rise_eq hl hm hp]; exact hl
end Go.Proofs.YtagiddbfhlokcaaGreatDoor.Ser
/- What ParseFloat reads, in plain Lean: the texts that are read as floats, the mantissa and the exponent. No condition. -/
namespace PF
def isDig (c : UInt8) : Bool := decide (48 ≤ c.toNat) && decide (c.toNat ≤ 57)
/-- Digits to the end, at least one. -/
def okD (l : List UInt8) : Bool := !l.isEmpty && l.all isDig
/-- Behind an e. -/
def okX : List UInt8 → Bool
  | [] => false
  | c :: r => if c = 43 ∨ c = 45 then okD r else okD (c :: r)
/-- The digits, perhaps with a dot, perhaps an exponent behind. -/
def okM (dot saw : Bool) : List UInt8 → Bool
  | [] => saw
  | c :: r => if isDig c then okM dot true r else if c = 46 then (!dot && saw) && okM true false r else (decide (c = 101) || decide (c = 69)) && (saw && okX r)
/-- Without its sign. -/
def body (l : List UInt8) : List UInt8 := match l with | 45 :: r => r | _ => l
def isNeg (l : List UInt8) : Bool := match l with | 45 :: _ => true | _ => false
/-- Is it read as a float? -/
def decB (l : List UInt8) : Bool := okM false false (body l) && decide (l.length ≤ 400)
/-- The state of the loop over the mantissa. -/
structure RF where
  man : Nat
  ds : List Nat
  nm : Nat
  dp : Int
  dot : Bool
  saw : Bool
  tr : Bool
def rf0 : RF := ⟨0, [], 0, 0, false, false, false⟩
/-- How many digits. -/
def RF.nd (st : RF) : Nat := st.ds.length
def RF.step (st : RF) (c : UInt8) : Option RF :=
  if c = 46 then (if st.dot then none else some { st with dot := true, dp := st.nd })
  else if isDig c then
    if c = 48 ∧ st.nd = 0 then some { st with saw := true, dp := st.dp - 1 }
    else if st.nm < 19 then some { st with saw := true, ds := st.ds ++ [c.toNat - 48], man := st.man * 10 + (c.toNat - 48), nm := st.nm + 1 }
    else some { st with saw := true, ds := st.ds ++ [c.toNat - 48], tr := st.tr || decide (c ≠ 48) }
  else none
def RF.run : List UInt8 → RF → RF × List UInt8
  | [], st => (st, [])
  | c :: r, st => match st.step c with | some st' => RF.run r st' | none => (st, c :: r)
/-- An exponent's digits. -/
def exD : List UInt8 → Nat → Nat
  | [], e => e
  | c :: r, e => exD r (if e < 10000 then e * 10 + (c.toNat - 48) else e)
/-- What stands behind the mantissa: 'e', perhaps a sign, digits. -/
def exV : List UInt8 → Int
  | _ :: 45 :: r => -(exD r 0 : Int)
  | _ :: 43 :: r => exD r 0
  | _ :: r => exD r 0
  | [] => 0
/-- Mantissa, exponent, are there digits left out? -/
def readF (l : List UInt8) : Nat × Int × Bool :=
  let (st, rest) := RF.run (body l) rf0
  let dp : Int := (if st.dot then st.dp else st.nd) + exV rest
  (st.man, (if st.man = 0 then 0 else dp - st.nm), st.tr)
theorem RF.run_some {c : UInt8} {r : List UInt8} {st st' : RF} (h : st.step c = some st') : RF.run (c :: r) st = RF.run r st' := by
  simp [RF.run, h]
theorem RF.run_none {c : UInt8} {r : List UInt8} {st : RF} (h : st.step c = none) : RF.run (c :: r) st = (st, c :: r) := by
  simp [RF.run, h]
/-- What holds of the state behind k signs. -/
structure RF.Ok (st : RF) (k : Nat) : Prop where
  nd : st.ds.length ≤ k
  nm : st.nm ≤ st.ds.length
  nm19 : st.nm ≤ 19
  man : st.man < 10 ^ st.nm
  dpl : -(k : Int) ≤ st.dp
  dph : st.dp ≤ k
  dig : ∀ d ∈ st.ds, d ≤ 9
  one : st.ds.headD 1 ≠ 0
theorem rf0_ok : rf0.Ok 0 := ⟨Nat.le_refl _, Nat.le_refl _, by decide, by decide, by decide, by decide, (fun _ h => by cases h), by decide⟩
theorem RF.Ok.step {st st' : RF} {k : Nat} {c : UInt8} (h : st.Ok k) (hs : st.step c = some st') : st'.Ok (k + 1) := by
  obtain ⟨h1, h2, h3, h4, h5, h6, h7, h8⟩ := h
  have dig (d : Nat) (hd : d ≤ 9) : ∀ x ∈ st.ds ++ [d], x ≤ 9 := by
    intro x hx
    rcases List.mem_append.1 hx with hx | hx
    · exact h7 x hx
    · rw [List.mem_singleton.1 hx]; exact hd
  have one (d : Nat) (hd : ¬(d = 0 ∧ st.ds.length = 0)) : (st.ds ++ [d]).headD 1 ≠ 0 := by
    cases he : st.ds with
    | nil => simp only [List.nil_append, List.headD_cons]; rw [he] at hd; simpa using hd
    | cons x t => rw [he] at h8; simpa using h8
  unfold RF.step at hs
  split at hs
  · split at hs
    · cases hs
    · cases hs
      exact ⟨by simp; omega, by simpa using h2, h3, h4, by simp [RF.nd]; omega, by simp [RF.nd]; omega, h7, h8⟩
  · split at hs
    · rename_i hd
      simp only [isDig, Bool.and_eq_true, decide_eq_true_eq] at hd
      split at hs
      · cases hs
        exact ⟨by simp; omega, by simpa using h2, h3, h4, by simp; omega, by simp; omega, h7, h8⟩
      · rename_i hz
        have hz' : ¬(c.toNat - 48 = 0 ∧ st.ds.length = 0) := fun ⟨a, b⟩ => hz ⟨UInt8.toNat_inj.1 (by simp; omega), b⟩
        split at hs
        · cases hs
          refine ⟨by simp; omega, by simp; omega, by simp; omega, ?_, by simp; omega, by simp; omega, dig _ (by omega), one _ hz'⟩
          simp only [Nat.pow_succ]
          omega
        · cases hs
          exact ⟨by simp; omega, by simp; omega, h3, h4, by simp; omega, by simp; omega, dig _ (by omega), one _ hz'⟩
    · cases hs
theorem RF.Ok.run : ∀ {l : List UInt8} {st : RF} {k : Nat}, st.Ok k → (RF.run l st).1.Ok (k + l.length)
  | [], _, _, h => h
  | c :: r, st, k, h => by
    unfold RF.run
    cases hs : st.step c with
    | none =>
      obtain ⟨h1, h2, h3, h4, h5, h6, h7, h8⟩ := h
      exact ⟨by simp; omega, h2, h3, h4, by simp; omega, by simp; omega, h7, h8⟩
    | some st' =>
      have := RF.Ok.run (l := r) (h.step hs)
      simp only [List.length_cons]
      rw [show k + (r.length + 1) = k + 1 + r.length by omega]
      exact this
theorem okM_saw : ∀ (l : List UInt8) {dot : Bool}, okM dot false l = true → okM dot true l = true
  | [], _, h => by simp [okM] at h
  | c :: r, dot, h => by
    unfold okM at h ⊢
    split at h
    · rename_i hd; rw [if_pos hd]; exact h
    · rename_i hd
      rw [if_neg hd]
      split at h
      · simp at h
      · simp at h
/-- What is left behind the mantissa of a text that is read. -/
def Rest (l : List UInt8) : Prop := l = [] ∨ ∃ c r, l = c :: r ∧ (c = 101 ∨ c = 69) ∧ okX r = true
theorem run_ok : ∀ (l : List UInt8) (st : RF) (saw : Bool), okM st.dot saw l = true → (saw = true → st.saw = true) → (RF.run l st).1.saw = true ∧ Rest (RF.run l st).2
  | [], st, saw, h, hs => ⟨hs (by simpa [okM] using h), .inl rfl⟩
  | c :: r, st, saw, h, hs => by
    unfold okM at h
    by_cases hd : isDig c = true
    · rw [if_pos hd] at h
      have h46 : ¬c = 46 := by rintro rfl; revert hd; decide
      unfold RF.run RF.step
      rw [if_neg h46, if_pos hd]
      split
      · rename_i st' e
        split at e
        · cases e; exact run_ok r _ true h fun _ => rfl
        · split at e
          · cases e; exact run_ok r _ true h fun _ => rfl
          · cases e; exact run_ok r _ true h fun _ => rfl
      · rename_i e
        split at e
        · cases e
        · split at e <;> cases e
    · rw [if_neg hd] at h
      by_cases h46 : c = 46
      · rw [if_pos h46] at h
        simp only [Bool.and_eq_true, Bool.not_eq_true'] at h
        obtain ⟨⟨h1, h2⟩, h3⟩ := h
        unfold RF.run RF.step
        rw [if_pos h46, h1]
        simp only [Bool.false_eq_true, if_false]
        have := run_ok r { st with dot := true, dp := st.nd } true
        have h4 := okM_saw r h3
        exact this h4 fun _ => hs h2
      · rw [if_neg h46] at h
        simp only [Bool.and_eq_true, Bool.or_eq_true, decide_eq_true_eq] at h
        obtain ⟨h1, h2, h3⟩ := h
        unfold RF.run RF.step
        rw [if_neg h46, if_neg hd]
        exact ⟨hs h2, .inr ⟨c, r, rfl, h1, h3⟩⟩
theorem exD_lt : ∀ (l : List UInt8) (e : Nat), l.all isDig = true → e < 100010 → exD l e < 100010
  | [], e, _, h => h
  | c :: r, e, hl, h => by
    simp only [List.all_cons, Bool.and_eq_true] at hl
    obtain ⟨hc, hr⟩ := hl
    simp only [isDig, Bool.and_eq_true, decide_eq_true_eq] at hc
    unfold exD
    refine exD_lt r _ hr ?_
    split
    · omega
    · exact h
end PF
