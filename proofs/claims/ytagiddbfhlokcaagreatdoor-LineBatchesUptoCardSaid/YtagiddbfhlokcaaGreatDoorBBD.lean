/- Several texts of this proof, laid together. Conditions: as each says. -/
import Derived.Test.YtagiddbfhlokcaaGreatDoorBAC
import Derived.Test.YtagiddbfhlokcaaGreatDoorBBC
import Derived.Test.YtagiddbfhlokcaaGreatDoorRows
import Derived.Lay
import Derived.MakeChecks
import Derived.Stop.LaidErr
import Derived.Lib.LaidTab
/- A series' text, by the program. Condition: texts' lengths are numbers of Go's int. -/
namespace Go.Proofs.YtagiddbfhlokcaaGreatDoor.Ser
open Go.RowKit Go.Sort
def tagText (kf vf : Nat → ByteArray) (i : Nat) : List UInt8 := 44 :: (esc (kf i).data.toList ++ 61 :: esc (vf i).data.toList)
def textTo (name : ByteArray) (kf vf : Nat → ByteArray) (k : Nat) : List UInt8 := esc name.data.toList ++ (List.range k).flatMap (tagText kf vf)
theorem textTo_succ (name : ByteArray) (kf vf : Nat → ByteArray) (k : Nat) : textTo name kf vf (k + 1) = textTo name kf vf k ++ tagText kf vf k := by
  simp [textTo, List.range_succ]
theorem name_le {l : List UInt8} (h : nameB l = true) : l.length ≤ 64 := by
  simp only [nameB, Bool.and_eq_true, decide_eq_true_eq] at h
  exact h.2.2
theorem esc_name_le {l : List UInt8} (h : nameB l = true) : (esc l).length ≤ 128 := by have := esc_le l; have := name_le h; omega
theorem formed_parts {name : ByteArray} {n : Nat} {kf vf : Nat → ByteArray} (h : formedB name n kf vf = true) : nameB name.data.toList = true ∧ n ≤ 8 ∧ ∀ i, i < n → nameB (kf i).data.toList = true ∧ nameB (vf i).data.toList = true := by
  simp only [formedB, Bool.and_eq_true, decide_eq_true_eq, List.all_eq_true] at h
  refine ⟨h.2.1, h.2.2, fun i hi => ?_⟩
  have := h.1 i (by simpa using hi)
  simp only [stepOk, Bool.and_eq_true] at this
  exact ⟨this.1, this.2.1⟩
theorem textTo_le {name : ByteArray} {n k : Nat} {kf vf : Nat → ByteArray} (h : formedB name n kf vf = true) (hk : k ≤ n) : (textTo name kf vf k).length ≤ 128 + 258 * k := by
  obtain ⟨h1, _, h3⟩ := formed_parts h
  induction k with
  | zero => have := esc_name_le h1; simp [textTo]; omega
  | succ k ih =>
    have i1 := ih (by omega)
    obtain ⟨a, b⟩ := h3 k (by omega)
    have := esc_name_le a
    have := esc_name_le b
    rw [textTo_succ, List.length_append]
    simp only [tagText, List.length_cons, List.length_append]
    omega
def textB (name : ByteArray) (n : Nat) (kf vf : Nat → ByteArray) : ByteArray × Int := if formedB name n kf vf then (⟨(textTo name kf vf n).toArray⟩, 0) else (⟨#[]⟩, 1)
def InText (n cap : Nat) (name : ByteArray) (a : Option Addr) (kf vf : Nat → ByteArray) (w : World) (t i : Value) (wr : World) : Prop :=
  ∃ (k : Nat) (acc : ByteArray), k ≤ n ∧ i = .int .i64 k ∧ t = .string acc ∧ acc = ⟨(textTo name kf vf k).toArray⟩ ∧ Below w.heap.size w wr ∧ w.heap.size < wr.heap.size ∧ wr.cell? ⟨w.heap.size, 1, none⟩ = some (.slice a n cap)
theorem ba_ext {a b : ByteArray} (h : a.data.toList = b.data.toList) : a = b := by
  cases a; cases b; simp at h; simp [h]
theorem inText_next {n cap k : Nat} {name acc ek ev : ByteArray} {a : Option Addr} {kf vf : Nat → ByteArray} {w wr w2 : World} (hk : k < n) (ha : acc = ⟨(textTo name kf vf k).toArray⟩) (he : ek = ⟨(esc (kf k).data.toList).toArray⟩) (hv : ev = ⟨(esc (vf k).data.toList).toArray⟩)
    {nw : ByteArray} (hnw : nw.data.toList = acc.data.toList ++ 44 :: (ek.data.toList ++ 61 :: ev.data.toList))
    (hb : Below w.heap.size w wr) (hsz : w.heap.size < wr.heap.size) (hc1 : wr.cell? ⟨w.heap.size, 1, none⟩ = some (.slice a n cap)) (h1 : Below wr.heap.size wr w2) :
    InText n cap name a kf vf w (.string nw) (.int .i64 ((k : Int) + 1)) w2 ∧ n - (intOf (Value.int .i64 ((k : Int) + 1))).toNat < n - (intOf (Value.int .i64 (k : Int))).toNat := by
  refine ⟨⟨k + 1, nw, hk, by go_num, rfl, ?_, hb.trans (h1.mono (Nat.le_of_lt hsz)), Nat.lt_of_lt_of_le hsz h1.size, ?_⟩, ?_⟩
  · apply ba_ext
    rw [hnw, textTo_succ, ha, he, hv]
    simp [tagText]
  · rw [← hc1]; exact h1.cell hsz
  · simp [intOf]; omega
set_option maxHeartbeats 1000000 in
theorem text (name : ByteArray) (a : Option Addr) (n cap : Nat) (kf vf : Nat → ByteArray) (w : World) (hn : n < 2 ^ 63) (hname : name.size ≤ maxLen) (hks : ∀ i, (kf i).size ≤ maxLen ∧ (vf i).size ≤ maxLen)
    (ht : TagsAt w a n kf vf) : Calls Tryz.prog 26 #[.agg #[.string name, .slice a n cap]] w (Answer (.tuple #[.string (textB name n kf vf).1, .int .i64 (textB name n kf vf).2]) w) := by
  have HT := Lib.hid ht
  have HK := Lib.hid hks
  have hn0 : Hid (name.size ≤ maxLen) := Lib.hid hname
  clear ht hks hname
  cases hf : formedB name n kf vf with
  | false =>
    have HF := Lib.hid hf
    clear hf
    go_enter Tryz.func26, Tryz.ntmps26
    go_wp2_with fail
    refine (formed name a n cap kf vf _ hn hn0.out HK.out (by exact HT.out.later ((Below.refl _ _).alloc (Nat.le_refl _) _))).mono ?_
    rw [HF.out]
    rintro e w2 ⟨rfl, hb2⟩
    have HB2 := Lib.hid hb2
    clear hb2
    go_wp2_with fail
    go_ret2
    exact ⟨by simp [textB, HF.out], ((Below.refl _ _).alloc (Nat.le_refl _) _).trans (HB2.out.mono (by simp))⟩
  | true =>
    have HF := Lib.hid hf
    clear hf
    obtain ⟨hp1, hp2, hp3⟩ := formed_parts HF.out
    have HP := Lib.hid (And.intro hp1 hp3)
    clear hp1 hp3
    go_enter Tryz.func26, Tryz.ntmps26
    go_wp2_with fail
    refine (formed name a n cap kf vf _ hn hn0.out HK.out (by exact HT.out.later ((Below.refl _ _).alloc (Nat.le_refl _) _))).mono ?_
    rw [HF.out]
    rintro e w2 ⟨rfl, hb2⟩
    have hz0 : w2.cell? ⟨w.heap.size, 0, none⟩ = some (.string name) := (hb2.cell (by simp)).trans (by simp)
    have hz1 : w2.cell? ⟨w.heap.size, 1, none⟩ = some (.slice a n cap) := (hb2.cell (by simp)).trans (by simp)
    have hbw0 : Below w.heap.size w w2 := ((Below.refl _ _).alloc (Nat.le_refl _) _).trans (hb2.mono (by simp))
    have hsz0 : w.heap.size < w2.heap.size := by have := hb2.size; simp at this; omega
    have HB0 := Lib.hid hbw0
    clear hb2 hbw0
    have hnl := name_le HP.out.1
    have hns : name.size ≤ 64 := by simpa using hnl
    go_wp2_with fail
    refine (escape name w2 (by omega)).mono ?_
    rintro e w3 ⟨rfl, hb3⟩
    have hy1 : w3.cell? ⟨w.heap.size, 1, none⟩ = some (.slice a n cap) := (hb3.cell hsz0).trans hz1
    have HB3 := Lib.hid (HB0.out.trans (hb3.mono (Nat.le_of_lt hsz0)))
    have hsz3 : w.heap.size < w3.heap.size := Nat.lt_of_lt_of_le hsz0 hb3.size
    clear hb3 hz0 hz1
    go_wp2_with fail
    go_loopw [4, 16] (fun t i wr => InText n cap name a kf vf w t i wr) (fun _ i _ => n - (intOf i).toNat)
    case atStart => exact ⟨0, _, Nat.zero_le _, rfl, rfl, by simp [textTo], HB3.out, hsz3, hy1⟩
    case round =>
      clear hy1 hsz3 hsz0
      obtain ⟨k, acc, hk, rfl, rfl, hacc, hb, hsz, hc1⟩ := hrel
      have hal : acc.size ≤ 128 + 258 * k := by have := textTo_le HF.out hk; rw [hacc]; simpa [ByteArray.size] using this
      have HAC := Lib.hid hacc
      have HB := Lib.hid hb
      clear hacc hb
      by_cases hlt : k < n
      · obtain ⟨b, off, ha, hbw, hck, hcv⟩ := HT.out k hlt
        subst ha
        have hd1 : wr.cell? ⟨b, off + k * 2, none⟩ = some (.string (kf k)) := by rw [← hck]; exact HB.out.cell hbw
        have hd2 : wr.cell? ⟨b, off + k * 2 + 1, none⟩ = some (.string (vf k)) := by rw [← hcv]; exact HB.out.cell hbw
        have hbr : b < wr.heap.size := Nat.lt_of_lt_of_le hbw HB.out.size
        clear hck hcv
        obtain ⟨W, hW⟩ : ∃ W, W = wr.alloc (.cells #[.string (kf k), .string (vf k)] 82) := ⟨_, rfl⟩
        have f0 := cell_regrown (show W.cell? ⟨wr.heap.size, 0, none⟩ = some (.string (kf k)) by rw [hW]; simp)
        have f1 := cell_regrown (show W.cell? ⟨wr.heap.size, 1, none⟩ = some (.string (vf k)) by rw [hW]; simp)
        have HW := Lib.hid hW
        clear hW
        obtain ⟨nk, nv⟩ := HP.out.2 k hlt
        have lk := esc_name_le nk
        have lv := esc_name_le nv
        have sk := name_le nk
        have sv := name_le nv
        obtain ⟨ek, hek⟩ : ∃ ek : ByteArray, ek = ⟨(esc (kf k).data.toList).toArray⟩ := ⟨_, rfl⟩
        obtain ⟨ev, hev⟩ : ∃ ev : ByteArray, ev = ⟨(esc (vf k).data.toList).toArray⟩ := ⟨_, rfl⟩
        have zk : ek.size ≤ 128 := by rw [hek]; simpa [ByteArray.size] using lk
        have zv : ev.size ≤ 128 := by rw [hev]; simpa [ByteArray.size] using lv
        have ok : (kf k).size ≤ 70368744177664 := by have : (kf k).size ≤ 64 := by simpa using sk
                                                     omega
        have ov : (vf k).size ≤ 70368744177664 := by have : (vf k).size ≤ 64 := by simpa using sv
                                                     omega
        have cK := fun d os => Calls.regrown_of (v := .string ek) (by rw [hek]; exact escape (kf k) (grow (redrawn W d) os) ok)
        have cV := fun d os => Calls.regrown_of (v := .string ev) (by rw [hev]; exact escape (vf k) (grow (redrawn W d) os) ov)
        have HEK := Lib.hid (And.intro hek hev)
        clear hek hev nk nv lk lv sk sv ok ov
        go_wp2_with fail
        rw [← HW.out]
        refine wp_region_quiet_below (by kernel_rfl) (by kernel_rfl) ?_
        repeat (go_big_quiet_step ((first | with_reducible exact cK _ _ | with_reducible exact cV _ _)))
        refine wpQuiet_nil ?_
        intro w2 hw2
        have hb2 := below_of_regrown hw2
        have HB2 := Lib.hid hb2
        clear hw2 hb2
        go_wp2
        have HB3' := HB2.out
        rw [HW.out] at HB3'
        exact inText_next hlt HAC.out HEK.out.1 HEK.out.2 (by simp) HB.out hsz hc1 (((Below.refl _ _).alloc (Nat.le_refl _) _).trans (HB3'.mono (by simp)))
      · have hke : k = n := by omega
        have HAN := Lib.hid (show acc = ⟨(textTo name kf vf n).toArray⟩ by rw [← hke]; exact HAC.out)
        clear hke
        go_wp2_with fail
        go_ret2
        refine ⟨?_, HB.out⟩
        rw [HAN.out]
        simp [textB, HF.out]
set_option maxHeartbeats 1000000 in
theorem rtext (name : ByteArray) (a : Option Addr) (n cap : Nat) (kf vf : Nat → ByteArray) (w : World) (hn : n < 2 ^ 63) (hname : name.size ≤ maxLen) (hks : ∀ i, (kf i).size ≤ maxLen ∧ (vf i).size ≤ maxLen)
    (ht : TagsAt w a n kf vf) : Calls Tryz.prog 61 #[.agg #[.string name, .slice a n cap]] w (Answer (.tuple #[.string (textB name n kf vf).1, .int .i64 (textB name n kf vf).2]) w) := by
  have HT := Lib.hid ht
  have HK := Lib.hid hks
  have hn0 : Hid (name.size ≤ maxLen) := Lib.hid hname
  clear ht hks hname
  cases hf : formedB name n kf vf with
  | false =>
    have HF := Lib.hid hf
    clear hf
    go_enter Tryz.func61, Tryz.ntmps61
    go_wp2_with fail
    refine (rformed name a n cap kf vf _ hn hn0.out HK.out (by exact HT.out.later ((Below.refl _ _).alloc (Nat.le_refl _) _))).mono ?_
    rw [HF.out]
    rintro e w2 ⟨rfl, hb2⟩
    have HB2 := Lib.hid hb2
    clear hb2
    go_wp2_with fail
    go_ret2
    exact ⟨by simp [textB, HF.out], ((Below.refl _ _).alloc (Nat.le_refl _) _).trans (HB2.out.mono (by simp))⟩
  | true =>
    have HF := Lib.hid hf
    clear hf
    obtain ⟨hp1, hp2, hp3⟩ := formed_parts HF.out
    have HP := Lib.hid (And.intro hp1 hp3)
    clear hp1 hp3
    go_enter Tryz.func61, Tryz.ntmps61
    go_wp2_with fail
    refine (rformed name a n cap kf vf _ hn hn0.out HK.out (by exact HT.out.later ((Below.refl _ _).alloc (Nat.le_refl _) _))).mono ?_
    rw [HF.out]
    rintro e w2 ⟨rfl, hb2⟩
    have hz0 : w2.cell? ⟨w.heap.size, 0, none⟩ = some (.string name) := (hb2.cell (by simp)).trans (by simp)
    have hz1 : w2.cell? ⟨w.heap.size, 1, none⟩ = some (.slice a n cap) := (hb2.cell (by simp)).trans (by simp)
    have hbw0 : Below w.heap.size w w2 := ((Below.refl _ _).alloc (Nat.le_refl _) _).trans (hb2.mono (by simp))
    have hsz0 : w.heap.size < w2.heap.size := by have := hb2.size; simp at this; omega
    have HB0 := Lib.hid hbw0
    clear hb2 hbw0
    have hnl := name_le HP.out.1
    have hns : name.size ≤ 64 := by simpa using hnl
    go_wp2_with fail
    refine (rescape name w2 (by omega)).mono ?_
    rintro e w3 ⟨rfl, hb3⟩
    have hy1 : w3.cell? ⟨w.heap.size, 1, none⟩ = some (.slice a n cap) := (hb3.cell hsz0).trans hz1
    have HB3 := Lib.hid (HB0.out.trans (hb3.mono (Nat.le_of_lt hsz0)))
    have hsz3 : w.heap.size < w3.heap.size := Nat.lt_of_lt_of_le hsz0 hb3.size
    clear hb3 hz0 hz1
    go_wp2_with fail
    go_loopw [4, 15] (fun t i wr => InText n cap name a kf vf w t i wr) (fun _ i _ => n - (intOf i).toNat)
    case atStart => exact ⟨0, _, Nat.zero_le _, rfl, rfl, by simp [textTo], HB3.out, hsz3, hy1⟩
    case round =>
      clear hy1 hsz3 hsz0
      obtain ⟨k, acc, hk, rfl, rfl, hacc, hb, hsz, hc1⟩ := hrel
      have hal : acc.size ≤ 128 + 258 * k := by have := textTo_le HF.out hk; rw [hacc]; simpa [ByteArray.size] using this
      have HAC := Lib.hid hacc
      have HB := Lib.hid hb
      clear hacc hb
      by_cases hlt : k < n
      · obtain ⟨b, off, ha, hbw, hck, hcv⟩ := HT.out k hlt
        subst ha
        have hd1 : wr.cell? ⟨b, off + k * 2, none⟩ = some (.string (kf k)) := by rw [← hck]; exact HB.out.cell hbw
        have hd2 : wr.cell? ⟨b, off + k * 2 + 1, none⟩ = some (.string (vf k)) := by rw [← hcv]; exact HB.out.cell hbw
        have hi0 : (0 : Int) ≤ (k : Int) := by omega
        have hi1 : (k : Int) < (n : Int) := by omega
        clear hck hcv
        have f0 := cell_regrown hd1
        have f1 := cell_regrown hd2
        have f2 := cell_regrown hc1
        clear hd1 hd2
        obtain ⟨nk, nv⟩ := HP.out.2 k hlt
        have lk := esc_name_le nk
        have lv := esc_name_le nv
        have sk := name_le nk
        have sv := name_le nv
        obtain ⟨ek, hek⟩ : ∃ ek : ByteArray, ek = ⟨(esc (kf k).data.toList).toArray⟩ := ⟨_, rfl⟩
        obtain ⟨ev, hev⟩ : ∃ ev : ByteArray, ev = ⟨(esc (vf k).data.toList).toArray⟩ := ⟨_, rfl⟩
        have zk : ek.size ≤ 128 := by rw [hek]; simpa [ByteArray.size] using lk
        have zv : ev.size ≤ 128 := by rw [hev]; simpa [ByteArray.size] using lv
        have ok : (kf k).size ≤ 70368744177664 := by have : (kf k).size ≤ 64 := by simpa using sk
                                                     omega
        have ov : (vf k).size ≤ 70368744177664 := by have : (vf k).size ≤ 64 := by simpa using sv
                                                     omega
        have cK := fun d os => Calls.regrown_of (v := .string ek) (by rw [hek]; exact rescape (kf k) (grow (redrawn wr d) os) ok)
        have cV := fun d os => Calls.regrown_of (v := .string ev) (by rw [hev]; exact rescape (vf k) (grow (redrawn wr d) os) ov)
        have HEK := Lib.hid (And.intro hek hev)
        clear hek hev nk nv lk lv sk sv ok ov
        go_wp2_with fail
        refine wp_region_quiet_below (by kernel_rfl) (by kernel_rfl) ?_
        repeat (go_big_quiet_step ((first | with_reducible exact cK _ _ | with_reducible exact cV _ _)))
        refine wpQuiet_nil ?_
        intro w2 hw2
        have hb2 := below_of_regrown hw2
        have HB2 := Lib.hid hb2
        clear hw2 hb2
        go_wp2
        exact inText_next hlt HAC.out HEK.out.1 HEK.out.2 (by simp) HB.out hsz hc1 HB2.out
      · have hke : k = n := by omega
        have HAN := Lib.hid (show acc = ⟨(textTo name kf vf n).toArray⟩ by rw [← hke]; exact HAC.out)
        clear hke
        go_wp2_with fail
        go_ret2
        refine ⟨?_, HB.out⟩
        rw [HAN.out]
        simp [textB, HF.out]
end Go.Proofs.YtagiddbfhlokcaaGreatDoor.Ser
/- Two series are the same, by the reference; and the law's waking question. Condition: texts' lengths are numbers of Go's int. -/
namespace Go.Proofs.YtagiddbfhlokcaaGreatDoor.Ser
open Go.RowKit Go.Sort
def tagEq (kf vf kg vg : Nat → ByteArray) (i : Nat) : Bool := (kf i).toList == (kg i).toList && (vf i).toList == (vg i).toList
def sameB (name name' : ByteArray) (n n' : Nat) (kf vf kg vg : Nat → ByteArray) : Bool := (name.toList == name'.toList) && (decide (n = n') && (List.range n).all (tagEq kf vf kg vg))
theorem sameB_bad {name name' : ByteArray} {n k : Nat} {kf vf kg vg : Nat → ByteArray} (hk : k < n) (h : tagEq kf vf kg vg k = false) : sameB name name' n n kf vf kg vg = false := by
  have : (List.range n).all (tagEq kf vf kg vg) = false := by
    rw [List.all_eq_false]
    exact ⟨k, by simpa using hk, by simp [h]⟩
  simp [sameB, this]
def InSame (n cap cap' : Nat) (a a' : Option Addr) (kf vf kg vg : Nat → ByteArray) (w : World) (i : Value) (wr : World) : Prop :=
  ∃ k : Nat, k ≤ n ∧ i = .int .i64 k ∧ (List.range k).all (tagEq kf vf kg vg) = true ∧ Below w.heap.size w wr ∧ wr.cell? ⟨w.heap.size, 1, none⟩ = some (.slice a n cap) ∧ wr.cell? ⟨w.heap.size + 1, 1, none⟩ = some (.slice a' n cap')
theorem same (name name' : ByteArray) (a a' : Option Addr) (n n' cap cap' : Nat) (kf vf kg vg : Nat → ByteArray) (w : World) (hn : n < 2 ^ 63)
    (ht : TagsAt w a n kf vf) (ht' : TagsAt w a' n' kg vg) : Calls Tryz.prog 32 #[.agg #[.string name, .slice a n cap], .agg #[.string name', .slice a' n' cap']] w (Answer (.bool (sameB name name' n n' kf vf kg vg)) w) := by
  have HT := Lib.hid ht
  have HT' := Lib.hid ht'
  clear ht ht'
  have hbb : Below w.heap.size w ((w.alloc (.cells #[.string name, .slice a n cap] 24)).alloc (.cells #[.string name', .slice a' n' cap'] 24)) := (((Below.refl _ _).alloc (Nat.le_refl _) _).alloc (by simp) _)
  have HBB := Lib.hid hbb
  clear hbb
  cases e0 : (name.toList == name'.toList) with
  | false =>
    have hne : (!(name.toList == name'.toList)) = true := by rw [e0]; rfl
    have HE := Lib.hid e0
    clear e0
    go_enter Tryz.func32, Tryz.ntmps32
    go_wp2
    go_ret
    exact ⟨ret_bool (by simp [sameB, HE.out]), HBB.out⟩
  | true =>
  by_cases hnn : n = n'
  · subst hnn
    have HE := Lib.hid e0
    have hne : (!(name.toList == name'.toList)) = false := by rw [e0]; rfl
    clear e0
    go_enter Tryz.func32, Tryz.ntmps32
    go_wp2
    go_loopw [23] (fun i wr => InSame n cap cap' a a' kf vf kg vg w i wr) (fun i _ => n - (intOf i).toNat)
    case atStart => exact ⟨0, Nat.zero_le _, rfl, rfl, HBB.out, by simp, by simp⟩
    case round =>
      obtain ⟨k, hk, rfl, hall, hb, hc0, hc1⟩ := hrel
      have HA := Lib.hid hall
      have HB := Lib.hid hb
      clear hall hb
      by_cases hlt : k < n
      · obtain ⟨b, off, ha, hbw, hck, hcv⟩ := HT.out k hlt
        obtain ⟨b', off', ha', hbw', hck', hcv'⟩ := HT'.out k hlt
        subst ha
        subst ha'
        have hd1 : wr.cell? ⟨b, off + k * 2, none⟩ = some (.string (kf k)) := by rw [← hck]; exact HB.out.cell hbw
        have hd2 : wr.cell? ⟨b, off + k * 2 + 1, none⟩ = some (.string (vf k)) := by rw [← hcv]; exact HB.out.cell hbw
        have hd3 : wr.cell? ⟨b', off' + k * 2, none⟩ = some (.string (kg k)) := by rw [← hck']; exact HB.out.cell hbw'
        have hd4 : wr.cell? ⟨b', off' + k * 2 + 1, none⟩ = some (.string (vg k)) := by rw [← hcv']; exact HB.out.cell hbw'
        clear hck hcv hck' hcv'
        have hi0 : (0 : Int) ≤ (k : Int) := by omega
        have hi1 : (k : Int) < (n : Int) := by omega
        cases e1 : ((kf k).toList == (kg k).toList) with
        | false =>
          have HT1 := Lib.hid (show tagEq kf vf kg vg k = false by simp [tagEq, e1])
          go_wp2_with fail
          go_quiet (fail)
          go_wp2
          go_ret
          exact ⟨ret_bool (sameB_bad hlt HT1.out).symm, below_drewN HB.out _⟩
        | true =>
          cases e2 : ((vf k).toList == (vg k).toList) with
          | false =>
            have HT1 := Lib.hid (show tagEq kf vf kg vg k = false by simp [tagEq, e2])
            go_wp2_with fail
            go_quiet (fail)
            go_wp2
            go_ret
            exact ⟨ret_bool (sameB_bad hlt HT1.out).symm, below_drewN HB.out _⟩
          | true =>
            have HT1 := Lib.hid (show tagEq kf vf kg vg k = true by simp only [tagEq, e1, e2]; rfl)
            go_wp2_with fail
            go_quiet (fail)
            go_wp2
            go_roundw
            case rel => exact ⟨k + 1, hlt, by go_num, by rw [List.range_succ, List.all_append, HA.out]; simp [HT1.out], below_drewN HB.out _, hc0, hc1⟩
            case measure => simp [intOf]; omega
      · have hke : k = n := by omega
        have HAn := Lib.hid (show (List.range n).all (tagEq kf vf kg vg) = true by rw [← hke]; exact HA.out)
        clear hke
        go_wp2
        go_ret
        exact ⟨ret_bool (by simp [sameB, HAn.out, HE.out]), HB.out⟩
  · have HE := Lib.hid e0
    have hn1 : ((n : Int) != (n' : Int)) = true := by rw [bne_iff_ne]; omega
    have HN := Lib.hid hnn
    clear hnn
    go_enter Tryz.func32, Tryz.ntmps32
    go_wp2
    go_ret
    exact ⟨ret_bool (by simp [sameB, HN.out]), HBB.out⟩
end Go.Proofs.YtagiddbfhlokcaaGreatDoor.Ser
/- Two rows that hold the same are the same, by the reference. Condition: numbers of tags and fields. -/
namespace Go.Proofs.YtagiddbfhlokcaaGreatDoor.Ser
open Go.RowKit Go.Sort
set_option maxRecDepth 100000
theorem sameB_self (name : ByteArray) (n : Nat) (kf vf : Nat → ByteArray) : sameB name name n n kf vf kf vf = true := by
  unfold sameB tagEq
  simp
def InSm (L : List Fd) (a a' fa fa' : Option Addr) (name : ByteArray) (n c c' fc fc' : Nat) (tm : Int) (w : World) (i : Value) (wr : World) : Prop :=
  ∃ k : Nat, k ≤ L.length ∧ i = .int .i64 k ∧ Below w.heap.size w wr ∧ w.heap.size + 1 < wr.heap.size ∧ wr.cell? ⟨w.heap.size, 2, none⟩ = some (.slice fa L.length fc) ∧ wr.cell? ⟨w.heap.size + 1, 2, none⟩ = some (.slice fa' L.length fc')
set_option maxHeartbeats 4000000 in
theorem same13 (name : ByteArray) (a a' fa fa' : Option Addr) (n c c' fc fc' : Nat) (tm : Int) (kf vf : Nat → ByteArray) (L : List Fd) (w : World) (hn : n < 2 ^ 63) (hl : L.length < 2 ^ 62)
    (ht : TagsAt w a n kf vf) (ht' : TagsAt w a' n kf vf) (hf : FieldsAt w fa L) (hf' : FieldsAt w fa' L) :
    Calls Tryz.prog 13 #[.agg #[.string name, .slice a n c, .slice fa L.length fc, .int .i64 tm], .agg #[.string name, .slice a' n c', .slice fa' L.length fc', .int .i64 tm]] w (Answer (.bool true) w) := by
  have hbb : Below w.heap.size w ((w.alloc (.cells #[.string name, .slice a n c, .slice fa L.length fc, .int .i64 tm] 27)).alloc (.cells #[.string name, .slice a' n c', .slice fa' L.length fc', .int .i64 tm] 27)) := (((Below.refl _ _).alloc (Nat.le_refl _) _).alloc (by simp) _)
  have HF := Lib.hid hf
  have HF' := Lib.hid hf'
  have HBB := Lib.hid hbb
  obtain ⟨nl, hnl⟩ : ∃ m, L.length = m := ⟨_, rfl⟩
  have M32 := Lib.hid (fun w2 (h : Below w.heap.size w w2) => same name name a a' n n c c' kf vf kf vf w2 hn (fun i hi => by
    obtain ⟨b, off, h1, h2, h3, h4⟩ := ht i hi
    exact ⟨b, off, h1, Nat.lt_of_lt_of_le h2 h.size, by rw [← h3]; exact h.cell h2, by rw [← h4]; exact h.cell h2⟩) (fun i hi => by
    obtain ⟨b, off, h1, h2, h3, h4⟩ := ht' i hi
    exact ⟨b, off, h1, Nat.lt_of_lt_of_le h2 h.size, by rw [← h3]; exact h.cell h2, by rw [← h4]; exact h.cell h2⟩))
  rw [sameB_self] at M32
  have hl2 : nl < 2 ^ 62 := by omega
  rw [hnl] at HBB ⊢
  have HNL := Lib.hid hnl
  clear hbb ht ht' hf hf' hnl hl
  go_enter Tryz.func13, Tryz.ntmps13
  go_upto_region 1 with (fail)
  refine wp_gen (fun wx => Below w.heap.size w wx ∧ wx.heap[w.heap.size]? = some (.cells #[.string name, .slice a n c, .slice fa nl fc, .int .i64 tm] 27 (0, 0)) ∧ wx.heap[w.heap.size + 1]? = some (.cells #[.string name, .slice a' n c', .slice fa' nl fc', .int .i64 tm] 27 (0, 0))) ⟨HBB.out, ?_, ?_⟩ ?_
  · exact (Below.heap_alloc _ _ _ (by simp)).trans (newest _ _)
  · have := newest (w.alloc (.cells #[.string name, .slice a n c, .slice fa nl fc, .int .i64 tm] 27)) (.cells #[.string name, .slice a' n c', .slice fa' nl fc', .int .i64 tm] 27 (0, 0))
    rw [show (w.alloc (.cells #[.string name, .slice a n c, .slice fa nl fc, .int .i64 tm] 27)).heap.size = w.heap.size + 1 by simp] at this
    exact this
  rintro w1 ⟨hb1, hk0, hk1⟩
  have c0 : w1.cell? ⟨w.heap.size, 0, none⟩ = some (.string name) := Lib.cell_of_heap hk0 0
  have c1 : w1.cell? ⟨w.heap.size, 1, none⟩ = some (.slice a n c) := Lib.cell_of_heap hk0 1
  have d0 : w1.cell? ⟨w.heap.size + 1, 0, none⟩ = some (.string name) := Lib.cell_of_heap hk1 0
  have d1 : w1.cell? ⟨w.heap.size + 1, 1, none⟩ = some (.slice a' n c') := Lib.cell_of_heap hk1 1
  have HB1 := Lib.hid hb1
  have HK0 := Lib.hid hk0
  have HK1 := Lib.hid hk1
  clear hb1 hk0 hk1 HBB
  go_wp2_with fail
  refine (M32.out w1 HB1.out).mono ?_
  rintro e w2 ⟨rfl, hb2⟩
  have hk0 := (hb2.block _ (lt_of_block HK0.out)).trans HK0.out
  have hk1 := (hb2.block _ (lt_of_block HK1.out)).trans HK1.out
  have c2 : w2.cell? ⟨w.heap.size, 2, none⟩ = some (.slice fa nl fc) := Lib.cell_of_heap hk0 2
  have c3 : w2.cell? ⟨w.heap.size, 3, none⟩ = some (.int .i64 tm) := Lib.cell_of_heap hk0 3
  have d2 : w2.cell? ⟨w.heap.size + 1, 2, none⟩ = some (.slice fa' nl fc') := Lib.cell_of_heap hk1 2
  have d3 : w2.cell? ⟨w.heap.size + 1, 3, none⟩ = some (.int .i64 tm) := Lib.cell_of_heap hk1 3
  have HB2 := Lib.hid (HB1.out.trans (hb2.mono HB1.out.size))
  have HS2 := Lib.hid (lt_of_block hk1)
  clear hb2 hk0 hk1 c0 c1 d0 d1
  go_wp2_with fail
  have HC2 := Lib.hid c2
  have HD2 := Lib.hid d2
  clear c2 c3 d2 d3
  go_loopw [31] (fun i wx => InSm L a a' fa fa' name n c c' fc fc' tm w i wx) (fun i _ => nl - (intOf i).toNat)
  case atStart => exact ⟨0, Nat.zero_le _, rfl, HB2.out, HS2.out, by rw [HNL.out]; exact HC2.out, by rw [HNL.out]; exact HD2.out⟩
  case round =>
    obtain ⟨k, hk, rfl, hb, hsz, c2, d2⟩ := hrel
    rw [HNL.out] at hk c2 d2
    have HB := Lib.hid hb
    have HSZ := Lib.hid hsz
    by_cases hlt : k < nl
    · obtain ⟨b, off, ha, hbw, e0, e1, e2, e3⟩ := HF.out k (by rw [HNL.out]; exact hlt)
      obtain ⟨b', off', ha', hbw', e0', e1', e2', e3'⟩ := HF'.out k (by rw [HNL.out]; exact hlt)
      subst ha ha'
      have g0 := (hb.cell (p := ⟨b, off + k * 4, none⟩) hbw).trans e0
      have g1 := (hb.cell (p := ⟨b, off + k * 4 + 1, none⟩) hbw).trans e1
      have g2 := (hb.cell (p := ⟨b, off + k * 4 + 2, none⟩) hbw).trans e2
      have g3 := (hb.cell (p := ⟨b, off + k * 4 + 3, none⟩) hbw).trans e3
      have g0' := (hb.cell (p := ⟨b', off' + k * 4, none⟩) hbw').trans e0'
      have g1' := (hb.cell (p := ⟨b', off' + k * 4 + 1, none⟩) hbw').trans e1'
      have g2' := (hb.cell (p := ⟨b', off' + k * 4 + 2, none⟩) hbw').trans e2'
      have g3' := (hb.cell (p := ⟨b', off' + k * 4 + 3, none⟩) hbw').trans e3'
      obtain ⟨⟨ky, vk, vb, vt⟩, hfe⟩ : ∃ f, fE L k = f := ⟨_, rfl⟩
      rw [hfe] at g0 g1 g2 g3 g0' g1' g2' g3'
      simp only at g0 g1 g2 g3 g0' g1' g2' g3'
      have hkz : (k : Int) < (nl : Int) := by omega
      have HLT := Lib.hid hlt
      have HC := Lib.hid c2
      have HD := Lib.hid d2
      clear hb hbw hbw' e0 e1 e2 e3 e0' e1' e2' e3' hfe hk hsz
      go_wp2_with fail
      go_quiet (fail)
      go_wp2_with fail
      refine ⟨⟨k + 1, by rw [HNL.out]; exact HLT.out, by go_num, below_drewN HB.out _, HSZ.out, by rw [HNL.out]; exact HC.out, by rw [HNL.out]; exact HD.out⟩, ?_⟩
      simp [intOf]; omega
    · have hkz : ¬ (k : Int) < (nl : Int) := by omega
      clear hb hlt hk hsz
      go_wp2_with fail
      go_ret
      exact ⟨rfl, HB.out⟩
end Go.Proofs.YtagiddbfhlokcaaGreatDoor.Ser
/- A world that holds what the row lists: the row's witness; the cells of the two tables of powers out of the row's condition. No condition. -/
namespace Go.Proofs.YtagiddbfhlokcaaGreatDoor.Laid
def lst : List (String × DataW Unit) := Rows.valueParsesRow.laid
set_option maxRecDepth 100000 in
theorem fits (os : Os) : (World.holding Tryz.prog os ⟨#[], #[], []⟩).layFits Tryz.prog lst [] = true := by kernel_rfl
set_option maxRecDepth 100000 in
theorem ifaces (os : Os) : (World.holding Tryz.prog os ⟨#[], #[], []⟩).layIfaces Tryz.prog lst (World.laidAll Tryz.prog os lst) = true := by kernel_rfl
set_option maxRecDepth 100000 in
theorem plain : (lst.all fun x => x.2.handleName?.isNone) = true := by kernel_rfl
theorem met (os : Os) (args : Array Value) : laidMetH Tryz.prog lst ((World.laidAll Tryz.prog os lst).forCall (fun _ _ => 0) ⟨#[], args, []⟩).memory := by
  rw [MakeChecks.laidMetH_plain _ _ _ plain]
  exact laidMet_laidAll _ (fits os) (ifaces os)
set_option maxRecDepth 100000 in
theorem zipB (os : Os) (args : Array Value) : ((World.laidAll Tryz.prog os lst).forCall (fun _ _ => 0) ⟨#[], args, []⟩).variablesZipB Tryz.prog = true := by kernel_rfl
set_option maxRecDepth 100000 in
theorem dropB (os : Os) (args : Array Value) : (((World.laidAll Tryz.prog os lst).forCall (fun _ _ => 0) ⟨#[], args, []⟩).heap.toList.drop Tryz.prog.globals.size).take ((begin Tryz.prog (fun _ _ => 0) default).world.heap.size - Tryz.prog.globals.size) =
      (begin Tryz.prog (fun _ _ => 0) default).world.heap.toList.drop Tryz.prog.globals.size := by kernel_rfl
theorem shaped (os : Os) (args : Array Value) : ((World.laidAll Tryz.prog os lst).forCall (fun _ _ => 0) ⟨#[], args, []⟩).Shaped Tryz.prog := World.shaped_of_ZipB (zipB os args) (dropB os args)
end Go.Proofs.YtagiddbfhlokcaaGreatDoor.Laid
