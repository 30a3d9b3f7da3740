/- A name's text is taken off a text's head: the plain law, and Cut's walk. Condition: the text's length. -/
import Derived.Test.YthiniiemhifcoaaK
namespace Go.Proofs.Ythiniiemhifcoaa
open Go.RowKit Go.Sort
/-- What stands at a text's head, behind what was gathered, and what is left; none: a backslash with nothing special behind it. -/
def scan (acc : List UInt8) : List UInt8 → Option (List UInt8 × List UInt8)
  | [] => some (acc, [])
  | [c] => if c.toNat = 92 then none else if spec c then some (acc, [c]) else some (acc ++ [c], [])
  | c :: d :: l => if c.toNat = 92 then (if spec d then scan (acc ++ [d]) l else none) else if spec c then some (acc, c :: d :: l) else scan (acc ++ [c]) (d :: l)
theorem scan_plain (acc : List UInt8) (c : UInt8) (l : List UInt8) (h : c.toNat ≠ 92) (hs : spec c = false) : scan acc (c :: l) = scan (acc ++ [c]) l := by
  cases l with
  | nil => simp [scan, h, hs]
  | cons d l => rw [scan]; simp [h, hs]
theorem scan_stop (acc : List UInt8) (c : UInt8) (l : List UInt8) (h : c.toNat ≠ 92) (hs : spec c = true) : scan acc (c :: l) = some (acc, c :: l) := by
  cases l with
  | nil => simp [scan, h, hs]
  | cons d l => rw [scan]; simp [h, hs]
theorem scan_esc (acc : List UInt8) (c d : UInt8) (l : List UInt8) (h : c.toNat = 92) (hs : spec d = true) : scan acc (c :: d :: l) = scan (acc ++ [d]) l := by
  rw [scan]; simp [h, hs]
theorem scan_bad (acc : List UInt8) (c d : UInt8) (l : List UInt8) (h : c.toNat = 92) (hs : spec d = false) : scan acc (c :: d :: l) = none := by
  rw [scan]; simp [h, hs]
theorem scan_end (acc : List UInt8) (c : UInt8) (h : c.toNat = 92) : scan acc [c] = none := by
  simp [scan, h]
theorem tail_of (t : ByteArray) (h : 0 < t.size) : t.data.toList = t[0] :: (t.extract 1 t.size).data.toList := by
  have h1 : t.data.toList = t.data.toList.take 1 ++ t.data.toList.drop 1 := (List.take_append_drop 1 _).symm
  have h2 : t.data.toList.take 1 = [t[0]] := by
    have := take_snoc t 0 h
    simpa using this
  rw [h1, h2]
  simp [ByteArray.data_extract]
  exact (List.take_of_length_le (by simp)).symm
theorem empty_of (t : ByteArray) (h : t.size = 0) : t.data.toList = [] := List.eq_nil_of_length_eq_zero (by simpa using h)
def ofL (l : List UInt8) : ByteArray := ⟨l.toArray⟩
theorem ofL_toList (t : ByteArray) : ofL t.data.toList = t := by simp [ofL]
def CutPost (o : Option (List UInt8 × List UInt8)) (w : World) (e : Ending) (w' : World) : Prop :=
  Below w.heap.size w w' ∧ match o with
    | some (b, r) => e = .returned (.tuple #[.string (ofL b), .string (ofL r), .bool true])
    | none => ∃ t, e = .returned (.tuple #[.string ⟨#[]⟩, .string t, .bool false])
def InCut (s : ByteArray) (w : World) (v : Value) (wr : World) : Prop :=
  ∃ (t : ByteArray) (l : List UInt8), v = .string t ∧ scan [] s.data.toList = scan l t.data.toList ∧ l.length + t.size ≤ s.size ∧ Lib.IsBuilder 45 5 w.heap.size w.heap.size (Lib.byteCells l) wr ∧ Below w.heap.size w wr
def sizeOfV : Value → Nat
  | .string t => t.size
  | _ => 0
set_option maxRecDepth 100000 in
theorem cut (s : ByteArray) (w : World) (hs : s.size ≤ 140737488355328) : Calls Try.prog 29 #[.string s] w (CutPost (scan [] s.data.toList) w) := by
  go_enter Try.func29, Try.ntmps29
  go_wp2
  go_loopw [0] (fun v wr => InCut s w v wr) (fun v _ => sizeOfV v)
  case atStart => exact ⟨s, [], rfl, rfl, by simp, Lib.fresh_isBuilder 45 5 w, (Below.refl _ _).alloc (Nat.le_refl _) _⟩
  case round =>
    obtain ⟨t, l, rfl, hsc, hle, hbd, hb⟩ := hrel
    have HD := Lib.hid hbd
    have HB := Lib.hid hb
    have HSC := Lib.hid hsc
    have hsz := HB.out.size
    clear hbd hb hsc
    by_cases h0 : t.size = 0
    · have hE := is_empty h0
      have HT := Lib.hid (empty_of t h0)
      clear h0
      go_wp2_with fail
      refine (Try.Builder_String_any w.heap.size w.heap.size _ wr HD.out hsz).mono ?_
      rintro e w1 ⟨rfl, hb1⟩
      have HB1 := Lib.hid hb1
      clear hb1
      go_wp2_with fail
      go_ret3
      refine ⟨HB.out.trans HB1.out, ?_⟩
      rw [HSC.out, HT.out]
      simp only [scan, ofL]
      rw [show t = ⟨#[]⟩ from ByteArray.ext (Array.toList_inj.1 HT.out)]
      rfl
    · have hpos : 0 < t.size := by omega
      have hE := not_empty (s := t) (by omega)
      have htl := tail_of t hpos
      obtain ⟨c, hc⟩ : ∃ c, t[0] = c := ⟨_, rfl⟩
      obtain ⟨t1, ht1⟩ : ∃ t1, t.extract 1 t.size = t1 := ⟨_, rfl⟩
      rw [hc, ht1] at htl
      have HT := Lib.hid htl
      have hs1 : t1.size + 1 = t.size := by
        have := congrArg List.length htl
        simp at this
        omega
      clear htl h0
      by_cases h92 : c.toNat = 92
      · have hc92 : ((c.toNat : Int) == 92) = true := by simp; omega
        have H92 := Lib.hid h92
        clear h92
        by_cases h1 : t1.size = 0
        · have hE1 := is_empty h1
          have HT1 := Lib.hid (empty_of t1 h1)
          clear h1
          go_wp2_with fail
          go_ret3
          refine ⟨HB.out, ?_⟩
          rw [HSC.out, HT.out, HT1.out, scan_end _ _ H92.out]
          exact ⟨_, rfl⟩
        · have hpos1 : 0 < t1.size := by omega
          have hE1 := not_empty (s := t1) (by omega)
          have htl := tail_of t1 hpos1
          obtain ⟨d, hd⟩ : ∃ d, t1[0] = d := ⟨_, rfl⟩
          obtain ⟨t2, ht2⟩ : ∃ t2, t1.extract 1 t1.size = t2 := ⟨_, rfl⟩
          rw [hd, ht2] at htl
          have HT1 := Lib.hid htl
          have hs2 : t2.size + 1 = t1.size := by
            have := congrArg List.length htl
            simp at this
            omega
          clear htl h1
          cases hsp : spec d with
          | true =>
            have HS := Lib.hid hsp
            clear hsp
            obtain ⟨n, hn, hcall⟩ := idx_yes d HS.out
            have HCL := Lib.hid hcall
            have hn0 : ¬ n < 0 := by omega
            clear hcall hn
            go_wp2_with fail
            refine (HCL.out _).mono ?_
            rintro e w1 ⟨rfl, rfl⟩
            go_wp2_with fail
            refine (writeByte w.heap.size w.heap.size _ (d.toNat : Int) wr HD.out (by rw [byteCells_len]; omega) hsz).mono ?_
            rintro e w1 ⟨rfl, hd1, hb1⟩
            have HD1 := Lib.hid hd1
            have HB1 := Lib.hid hb1
            clear hd1 hb1
            go_wp2_with fail
            go_roundw
            case rel => exact ⟨t2, l ++ [d], rfl, by rw [HSC.out, HT.out, HT1.out, scan_esc _ _ _ _ H92.out HS.out], by simp; omega, .inr (by rw [byteCells_app]; simpa [Lib.byteCells] using HD1.out), HB.out.trans HB1.out⟩
            case measure => simp [sizeOfV]; omega
          | false =>
            have HS := Lib.hid hsp
            clear hsp
            go_wp2_with fail
            refine (idx_no d HS.out _).mono ?_
            rintro e w1 ⟨rfl, rfl⟩
            go_wp2_with fail
            go_ret3
            refine ⟨HB.out, ?_⟩
            rw [HSC.out, HT.out, HT1.out, scan_bad _ _ _ _ H92.out HS.out]
            exact ⟨_, rfl⟩
      · have hc92 : ((c.toNat : Int) == 92) = false := by simp; omega
        have H92 := Lib.hid h92
        clear h92
        cases hsp : spec c with
        | true =>
          have HS := Lib.hid hsp
          clear hsp
          obtain ⟨n, hn, hcall⟩ := idx_yes c HS.out
          have HCL := Lib.hid hcall
          have hn0 : ¬ n < 0 := by omega
          clear hcall hn
          go_wp2_with fail
          refine (HCL.out _).mono ?_
          rintro e w1 ⟨rfl, rfl⟩
          go_wp2_with fail
          refine (Try.Builder_String_any w.heap.size w.heap.size _ wr HD.out hsz).mono ?_
          rintro e w1 ⟨rfl, hb1⟩
          have HB1 := Lib.hid hb1
          clear hb1
          go_wp2_with fail
          go_ret3
          refine ⟨HB.out.trans HB1.out, ?_⟩
          rw [HSC.out, HT.out, scan_stop _ _ _ H92.out HS.out, ← HT.out]
          simp only [ofL_toList]
          rfl
        | false =>
          have HS := Lib.hid hsp
          clear hsp
          go_wp2_with fail
          refine (idx_no c HS.out _).mono ?_
          rintro e w1 ⟨rfl, rfl⟩
          go_wp2_with fail
          refine (writeByte w.heap.size w.heap.size _ (c.toNat : Int) wr HD.out (by rw [byteCells_len]; omega) hsz).mono ?_
          rintro e w1 ⟨rfl, hd1, hb1⟩
          have HD1 := Lib.hid hd1
          have HB1 := Lib.hid hb1
          clear hd1 hb1
          go_wp2_with fail
          go_roundw
          case rel => exact ⟨t1, l ++ [c], rfl, by rw [HSC.out, HT.out, scan_plain _ _ _ H92.out HS.out], by simp; omega, .inr (by rw [byteCells_app]; simpa [Lib.byteCells] using HD1.out), HB.out.trans HB1.out⟩
          case measure => simp [sizeOfV]; omega
end Go.Proofs.Ythiniiemhifcoaa
