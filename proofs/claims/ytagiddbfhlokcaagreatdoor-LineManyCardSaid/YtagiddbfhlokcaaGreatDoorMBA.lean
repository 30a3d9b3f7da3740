/- Several texts of this proof, laid together. Conditions: as each says. -/
import Derived.Test.YtagiddbfhlokcaaGreatDoorMAZ
import Derived.Sort.Walk0
/- Whether a series is formed, by the reference. Condition: texts' lengths are numbers of Go's int. -/
namespace Go.Proofs.YtagiddbfhlokcaaGreatDoor.Ser
open Go.RowKit Go.Sort
end Go.Proofs.YtagiddbfhlokcaaGreatDoor.Ser
/- A name's text is taken off a text's head: the plain law, and Cut's walk. Condition: the text's length. -/
namespace Go.Proofs.YtagiddbfhlokcaaGreatDoor.Ser
open Go.RowKit Go.Sort
/-- What stands at a text's head, behind what was gathered, and what is left; none: a backslash with nothing special behind it. -/
def scan (acc : List UInt8) : List UInt8 → Option (List UInt8 × List UInt8)
  | [] => some (acc, [])
  | [c] => if c.toNat = 92 then none else if spec c then some (acc, [c]) else some (acc ++ [c], [])
  | c :: d :: l => if c.toNat = 92 then (if spec d then scan (acc ++ [d]) l else none) else if spec c then some (acc, c :: d :: l) else scan (acc ++ [c]) (d :: l)
theorem scan_plain (acc : List UInt8) (c : UInt8) (l : List UInt8) (h : c.toNat ≠ 92) (hs : spec c = false) : scan acc (c :: l) = scan (acc ++ [c]) l := by
  cases l with
  | nil => simp [scan, h, hs]
  | cons d l => rw [scan]; simp [h, hs]
theorem scan_stop (acc : List UInt8) (c : UInt8) (l : List UInt8) (h : c.toNat ≠ 92) (hs : spec c = true) : scan acc (c :: l) = some (acc, c :: l) := by
  cases l with
  | nil => simp [scan, h, hs]
  | cons d l => rw [scan]; simp [h, hs]
theorem scan_esc (acc : List UInt8) (c d : UInt8) (l : List UInt8) (h : c.toNat = 92) (hs : spec d = true) : scan acc (c :: d :: l) = scan (acc ++ [d]) l := by
  rw [scan]; simp [h, hs]
theorem scan_bad (acc : List UInt8) (c d : UInt8) (l : List UInt8) (h : c.toNat = 92) (hs : spec d = false) : scan acc (c :: d :: l) = none := by
  rw [scan]; simp [h, hs]
theorem scan_end (acc : List UInt8) (c : UInt8) (h : c.toNat = 92) : scan acc [c] = none := by
  simp [scan, h]
theorem tail_of (t : ByteArray) (h : 0 < t.size) : t.data.toList = t[0] :: (t.extract 1 t.size).data.toList := by
  have h1 : t.data.toList = t.data.toList.take 1 ++ t.data.toList.drop 1 := (List.take_append_drop 1 _).symm
  have h2 : t.data.toList.take 1 = [t[0]] := by
    have := take_snoc t 0 h
    simpa using this
  rw [h1, h2]
  simp [ByteArray.data_extract]
  exact (List.take_of_length_le (by simp)).symm
theorem empty_of (t : ByteArray) (h : t.size = 0) : t.data.toList = [] := List.eq_nil_of_length_eq_zero (by simpa using h)
def ofL (l : List UInt8) : ByteArray := ⟨l.toArray⟩
theorem ofL_toList (t : ByteArray) : ofL t.data.toList = t := by simp [ofL]
def CutPost (o : Option (List UInt8 × List UInt8)) (w : World) (e : Ending) (w' : World) : Prop :=
  Below w.heap.size w w' ∧ match o with
    | some (b, r) => e = .returned (.tuple #[.string (ofL b), .string (ofL r), .bool true])
    | none => ∃ t, e = .returned (.tuple #[.string ⟨#[]⟩, .string t, .bool false])
def InCut (s : ByteArray) (w : World) (v : Value) (wr : World) : Prop :=
  ∃ (t : ByteArray) (l : List UInt8), v = .string t ∧ scan [] s.data.toList = scan l t.data.toList ∧ l.length + t.size ≤ s.size ∧ Lib.IsBuilder 117 5 w.heap.size w.heap.size (Lib.byteCells l) wr ∧ Below w.heap.size w wr
def sizeOfV : Value → Nat
  | .string t => t.size
  | _ => 0
set_option maxRecDepth 100000 in
theorem cut (s : ByteArray) (w : World) (hs : s.size ≤ 140737488355328) : Calls Tryz.prog 39 #[.string s] w (CutPost (scan [] s.data.toList) w) := by
  go_enter Tryz.func39, Tryz.ntmps39
  go_wp2
  go_loopw [0] (fun v wr => InCut s w v wr) (fun v _ => sizeOfV v)
  case atStart => exact ⟨s, [], rfl, rfl, by simp, Lib.fresh_isBuilder 117 5 w, (Below.refl _ _).alloc (Nat.le_refl _) _⟩
  case round =>
    obtain ⟨t, l, rfl, hsc, hle, hbd, hb⟩ := hrel
    have HD := Lib.hid hbd
    have HB := Lib.hid hb
    have HSC := Lib.hid hsc
    have hsz := HB.out.size
    clear hbd hb hsc
    by_cases h0 : t.size = 0
    · have hE := is_empty h0
      have HT := Lib.hid (empty_of t h0)
      clear h0
      go_wp2_with fail
      refine (Tryz.Builder_String_any w.heap.size w.heap.size _ wr HD.out hsz).mono ?_
      rintro e w1 ⟨rfl, hb1⟩
      have HB1 := Lib.hid hb1
      clear hb1
      go_wp2_with fail
      go_ret3
      refine ⟨HB.out.trans HB1.out, ?_⟩
      rw [HSC.out, HT.out]
      simp only [scan, ofL]
      rw [show t = ⟨#[]⟩ from ByteArray.ext (Array.toList_inj.1 HT.out)]
      rfl
    · have hpos : 0 < t.size := by omega
      have hE := not_empty (s := t) (by omega)
      have htl := tail_of t hpos
      obtain ⟨c, hc⟩ : ∃ c, t[0] = c := ⟨_, rfl⟩
      obtain ⟨t1, ht1⟩ : ∃ t1, t.extract 1 t.size = t1 := ⟨_, rfl⟩
      rw [hc, ht1] at htl
      have HT := Lib.hid htl
      have hs1 : t1.size + 1 = t.size := by
        have := congrArg List.length htl
        simp at this
        omega
      clear htl h0
      by_cases h92 : c.toNat = 92
      · have hc92 : ((c.toNat : Int) == 92) = true := by simp; omega
        have H92 := Lib.hid h92
        clear h92
        by_cases h1 : t1.size = 0
        · have hE1 := is_empty h1
          have HT1 := Lib.hid (empty_of t1 h1)
          clear h1
          go_wp2_with fail
          go_ret3
          refine ⟨HB.out, ?_⟩
          rw [HSC.out, HT.out, HT1.out, scan_end _ _ H92.out]
          exact ⟨_, rfl⟩
        · have hpos1 : 0 < t1.size := by omega
          have hE1 := not_empty (s := t1) (by omega)
          have htl := tail_of t1 hpos1
          obtain ⟨d, hd⟩ : ∃ d, t1[0] = d := ⟨_, rfl⟩
          obtain ⟨t2, ht2⟩ : ∃ t2, t1.extract 1 t1.size = t2 := ⟨_, rfl⟩
          rw [hd, ht2] at htl
          have HT1 := Lib.hid htl
          have hs2 : t2.size + 1 = t1.size := by
            have := congrArg List.length htl
            simp at this
            omega
          clear htl h1
          cases hsp : spec d with
          | true =>
            have HS := Lib.hid hsp
            clear hsp
            obtain ⟨n, hn, hcall⟩ := idx_yes d HS.out
            have HCL := Lib.hid hcall
            have hn0 : ¬ n < 0 := by omega
            clear hcall hn
            go_wp2_with fail
            refine (HCL.out _).mono ?_
            rintro e w1 ⟨rfl, rfl⟩
            go_wp2_with fail
            refine (writeByte w.heap.size w.heap.size _ (d.toNat : Int) wr HD.out (by rw [byteCells_len]; omega) hsz).mono ?_
            rintro e w1 ⟨rfl, hd1, hb1⟩
            have HD1 := Lib.hid hd1
            have HB1 := Lib.hid hb1
            clear hd1 hb1
            go_wp2_with fail
            go_roundw
            case rel => exact ⟨t2, l ++ [d], rfl, by rw [HSC.out, HT.out, HT1.out, scan_esc _ _ _ _ H92.out HS.out], by simp; omega, .inr (by rw [byteCells_app]; simpa [Lib.byteCells] using HD1.out), HB.out.trans HB1.out⟩
            case measure => simp [sizeOfV]; omega
          | false =>
            have HS := Lib.hid hsp
            clear hsp
            go_wp2_with fail
            refine (idx_no d HS.out _).mono ?_
            rintro e w1 ⟨rfl, rfl⟩
            go_wp2_with fail
            go_ret3
            refine ⟨HB.out, ?_⟩
            rw [HSC.out, HT.out, HT1.out, scan_bad _ _ _ _ H92.out HS.out]
            exact ⟨_, rfl⟩
      · have hc92 : ((c.toNat : Int) == 92) = false := by simp; omega
        have H92 := Lib.hid h92
        clear h92
        cases hsp : spec c with
        | true =>
          have HS := Lib.hid hsp
          clear hsp
          obtain ⟨n, hn, hcall⟩ := idx_yes c HS.out
          have HCL := Lib.hid hcall
          have hn0 : ¬ n < 0 := by omega
          clear hcall hn
          go_wp2_with fail
          refine (HCL.out _).mono ?_
          rintro e w1 ⟨rfl, rfl⟩
          go_wp2_with fail
          refine (Tryz.Builder_String_any w.heap.size w.heap.size _ wr HD.out hsz).mono ?_
          rintro e w1 ⟨rfl, hb1⟩
          have HB1 := Lib.hid hb1
          clear hb1
          go_wp2_with fail
          go_ret3
          refine ⟨HB.out.trans HB1.out, ?_⟩
          rw [HSC.out, HT.out, scan_stop _ _ _ H92.out HS.out, ← HT.out]
          simp only [ofL_toList]
          rfl
        | false =>
          have HS := Lib.hid hsp
          clear hsp
          go_wp2_with fail
          refine (idx_no c HS.out _).mono ?_
          rintro e w1 ⟨rfl, rfl⟩
          go_wp2_with fail
          refine (writeByte w.heap.size w.heap.size _ (c.toNat : Int) wr HD.out (by rw [byteCells_len]; omega) hsz).mono ?_
          rintro e w1 ⟨rfl, hd1, hb1⟩
          have HD1 := Lib.hid hd1
          have HB1 := Lib.hid hb1
          clear hd1 hb1
          go_wp2_with fail
          go_roundw
          case rel => exact ⟨t1, l ++ [c], rfl, by rw [HSC.out, HT.out, scan_plain _ _ _ H92.out HS.out], by simp; omega, .inr (by rw [byteCells_app]; simpa [Lib.byteCells] using HD1.out), HB.out.trans HB1.out⟩
          case measure => simp [sizeOfV]; omega
end Go.Proofs.YtagiddbfhlokcaaGreatDoor.Ser
/- A name's text is taken off a text from a place on, by the reference. Condition: the text's length. -/
namespace Go.Proofs.YtagiddbfhlokcaaGreatDoor.Ser
open Go.RowKit Go.Sort
end Go.Proofs.YtagiddbfhlokcaaGreatDoor.Ser
/- The plain law of a series' parsing. No condition. -/
namespace Go.Proofs.YtagiddbfhlokcaaGreatDoor.Ser
open Go.RowKit Go.Sort
abbrev Tg := ByteArray × ByteArray
def kOf (L : List Tg) (i : Nat) : ByteArray := (L.getD i (⟨#[]⟩, ⟨#[]⟩)).1
def vOf (L : List Tg) (i : Nat) : ByteArray := (L.getD i (⟨#[]⟩, ⟨#[]⟩)).2
theorem scan_len : ∀ (n : Nat) {acc l b r : List UInt8}, l.length ≤ n → scan acc l = some (b, r) → r.length ≤ l.length ∧ b.length + r.length ≤ acc.length + l.length
  | n, acc, [], b, r, _, h => by
    simp [scan] at h
    obtain ⟨rfl, rfl⟩ := h
    simp
  | 0, acc, c :: l, b, r, hn, h => by simp at hn
  | n + 1, acc, c :: l, b, r, hn, h => by
    by_cases h92 : c.toNat = 92
    · cases l with
      | nil => rw [scan_end _ _ h92] at h; cases h
      | cons d l =>
        cases hs : spec d with
        | true =>
          rw [scan_esc _ _ _ _ h92 hs] at h
          have := scan_len n (by simp at hn; omega) h
          simp at this ⊢
          omega
        | false => rw [scan_bad _ _ _ _ h92 hs] at h; cases h
    · cases hs : spec c with
      | true =>
        rw [scan_stop _ _ _ h92 hs] at h
        simp at h
        obtain ⟨rfl, rfl⟩ := h
        simp
      | false =>
        rw [scan_plain _ _ _ h92 hs] at h
        have := scan_len n (by simp at hn; omega) h
        simp at this ⊢
        omega
end Go.Proofs.YtagiddbfhlokcaaGreatDoor.Ser
/- Rows of things with keys, put in order: plain lists. No condition. -/
namespace Go.Proofs.YtagiddbfhlokcaaGreatDoor.Ser
open Go.RowKit Go.Sort
variable {α : Type}
theorem lt_tri (a b : List UInt8) (h : ¬ a < b) (h' : ¬ b < a) : a = b := List.le_antisymm (List.not_lt.1 h') (List.not_lt.1 h)
/-- The list's elements rise by their keys; none's key is another's. -/
def Rise (key : α → List UInt8) (l : List α) : Prop := l.Pairwise fun a b => key a < key b
/-- No element's key is below that of one ahead. -/
def Weak (key : α → List UInt8) (l : List α) : Prop := l.Pairwise fun a b => ¬ key b < key a
theorem Rise.weak {key : α → List UInt8} {l : List α} (h : Rise key l) : Weak key l := h.imp fun hab hba => List.lt_irrefl _ (List.lt_trans hab hba)
/-- Two rows of the same things, one that rises, one in order: they are one. -/
theorem rise_eq {key : α → List UInt8} : ∀ {l m : List α}, Rise key l → Weak key m → l.Perm m → l = m
  | [], m, _, _, hp => (List.Perm.nil_eq hp)
  | a :: l, [], _, _, hp => absurd hp.length_eq (by simp)
  | a :: l, b :: m, hl, hm, hp => by
    have hl' := List.pairwise_cons.1 hl
    have hm' := List.pairwise_cons.1 hm
    have hb : b ∈ a :: l := hp.mem_iff.2 (by simp)
    have ha : a ∈ b :: m := hp.mem_iff.1 (by simp)
    have e : a = b := by
      rcases List.mem_cons.1 hb with h | h
      · exact h.symm
      · rcases List.mem_cons.1 ha with h2 | h2
        · exact h2
        · exact absurd (hl'.1 b h) (hm'.1 a h2)
    subst e
    rw [rise_eq hl'.2 hm'.2 (hp.cons_inv)]
/-- x is laid behind all whose keys are not above its own. -/
def ins (key : α → List UInt8) (x : α) : List α → List α
  | [] => [x]
  | y :: l => if key x < key y then x :: y :: l else y :: ins key x l
def srt (key : α → List UInt8) : List α → List α
  | [] => []
  | x :: l => ins key x (srt key l)
theorem ins_perm (key : α → List UInt8) (x : α) : ∀ l, (ins key x l).Perm (x :: l)
  | [] => .refl _
  | y :: l => by
    rw [ins]
    split
    · exact .refl _
    · exact ((ins_perm key x l).cons y).trans (.swap x y l)
theorem srt_perm (key : α → List UInt8) : ∀ l, (srt key l).Perm l
  | [] => .refl _
  | x :: l => (ins_perm key x _).trans ((srt_perm key l).cons x)
theorem nlt_trans {a b c : List UInt8} (h1 : ¬ b < a) (h2 : ¬ c < b) : ¬ c < a := by
  intro h
  rcases Classical.em (a < b) with h3 | h3
  · exact h2 (List.lt_trans h h3)
  · have := lt_tri a b h3 h1
    subst this
    exact h2 h
theorem ins_weak (key : α → List UInt8) (x : α) : ∀ l, Weak key l → Weak key (ins key x l)
  | [], _ => by simp [ins, Weak]
  | y :: l, h => by
    have h' := List.pairwise_cons.1 h
    rw [ins]
    split
    · rename_i hlt
      have hxy : ¬ key y < key x := fun e => List.lt_irrefl _ (List.lt_trans hlt e)
      refine List.pairwise_cons.2 ⟨fun z hz => ?_, h⟩
      rcases List.mem_cons.1 hz with rfl | hz
      · exact hxy
      · exact nlt_trans hxy (h'.1 z hz)
    · rename_i hlt
      refine List.pairwise_cons.2 ⟨fun z hz => ?_, ins_weak key x l h'.2⟩
      rcases List.mem_cons.1 ((ins_perm key x l).mem_iff.1 hz) with rfl | hz
      · exact hlt
      · exact h'.1 z hz
theorem srt_weak (key : α → List UInt8) : ∀ l, Weak key (srt key l)
  | [] => by simp [srt, Weak]
  | x :: l => ins_weak key x _ (srt_weak key l)
/-- Of two rows of the same things, both in order, one rises just if the other does. -/
theorem rise_of_weak {key : α → List UInt8} {l m : List α} (hl : Rise key l) (hm : Weak key m) (hp : l.Perm m) : Rise key m := by
  rw [← rise_eq hl hm hp]; exact hl
end Go.Proofs.YtagiddbfhlokcaaGreatDoor.Ser
