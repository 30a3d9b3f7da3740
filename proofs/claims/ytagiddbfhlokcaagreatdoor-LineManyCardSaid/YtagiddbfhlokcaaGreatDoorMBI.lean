/- Several texts of this proof, laid together. Conditions: as each says. -/
import Derived.Test.YtagiddbfhlokcaaGreatDoorMBA
import Derived.Test.YtagiddbfhlokcaaGreatDoorMBG
import Derived.Test.YtagiddbfhlokcaaGreatDoorMBH
import Derived.Shelf.SlGeneric
import Derived.Shelf.SlSortCmp.WholeK
import Derived.Shelf.SlSortCmp.NoneTotal
import Derived.Ground.SlsfProg
import Derived.Test.YtagiddbfhlokcaaGreatDoorProg
/- A series' text, by the program. Condition: texts' lengths are numbers of Go's int. -/
namespace Go.Proofs.YtagiddbfhlokcaaGreatDoor.Ser
open Go.RowKit Go.Sort
def tagText (kf vf : Nat → ByteArray) (i : Nat) : List UInt8 := 44 :: (esc (kf i).data.toList ++ 61 :: esc (vf i).data.toList)
def textTo (name : ByteArray) (kf vf : Nat → ByteArray) (k : Nat) : List UInt8 := esc name.data.toList ++ (List.range k).flatMap (tagText kf vf)
theorem textTo_succ (name : ByteArray) (kf vf : Nat → ByteArray) (k : Nat) : textTo name kf vf (k + 1) = textTo name kf vf k ++ tagText kf vf k := by
  simp [textTo, List.range_succ]
theorem name_le {l : List UInt8} (h : nameB l = true) : l.length ≤ 64 := by
  simp only [nameB, Bool.and_eq_true, decide_eq_true_eq] at h
  exact h.2.2
theorem esc_name_le {l : List UInt8} (h : nameB l = true) : (esc l).length ≤ 128 := by have := esc_le l; have := name_le h; omega
theorem formed_parts {name : ByteArray} {n : Nat} {kf vf : Nat → ByteArray} (h : formedB name n kf vf = true) : nameB name.data.toList = true ∧ n ≤ 8 ∧ ∀ i, i < n → nameB (kf i).data.toList = true ∧ nameB (vf i).data.toList = true := by
  simp only [formedB, Bool.and_eq_true, decide_eq_true_eq, List.all_eq_true] at h
  refine ⟨h.2.1, h.2.2, fun i hi => ?_⟩
  have := h.1 i (by simpa using hi)
  simp only [stepOk, Bool.and_eq_true] at this
  exact ⟨this.1, this.2.1⟩
theorem textTo_le {name : ByteArray} {n k : Nat} {kf vf : Nat → ByteArray} (h : formedB name n kf vf = true) (hk : k ≤ n) : (textTo name kf vf k).length ≤ 128 + 258 * k := by
  obtain ⟨h1, _, h3⟩ := formed_parts h
  induction k with
  | zero => have := esc_name_le h1; simp [textTo]; omega
  | succ k ih =>
    have i1 := ih (by omega)
    obtain ⟨a, b⟩ := h3 k (by omega)
    have := esc_name_le a
    have := esc_name_le b
    rw [textTo_succ, List.length_append]
    simp only [tagText, List.length_cons, List.length_append]
    omega
def textB (name : ByteArray) (n : Nat) (kf vf : Nat → ByteArray) : ByteArray × Int := if formedB name n kf vf then (⟨(textTo name kf vf n).toArray⟩, 0) else (⟨#[]⟩, 1)
def InText (n cap : Nat) (name : ByteArray) (a : Option Addr) (kf vf : Nat → ByteArray) (w : World) (t i : Value) (wr : World) : Prop :=
  ∃ (k : Nat) (acc : ByteArray), k ≤ n ∧ i = .int .i64 k ∧ t = .string acc ∧ acc = ⟨(textTo name kf vf k).toArray⟩ ∧ Below w.heap.size w wr ∧ w.heap.size < wr.heap.size ∧ wr.cell? ⟨w.heap.size, 1, none⟩ = some (.slice a n cap)
theorem ba_ext {a b : ByteArray} (h : a.data.toList = b.data.toList) : a = b := by
  cases a; cases b; simp at h; simp [h]
theorem inText_next {n cap k : Nat} {name acc ek ev : ByteArray} {a : Option Addr} {kf vf : Nat → ByteArray} {w wr w2 : World} (hk : k < n) (ha : acc = ⟨(textTo name kf vf k).toArray⟩) (he : ek = ⟨(esc (kf k).data.toList).toArray⟩) (hv : ev = ⟨(esc (vf k).data.toList).toArray⟩)
    {nw : ByteArray} (hnw : nw.data.toList = acc.data.toList ++ 44 :: (ek.data.toList ++ 61 :: ev.data.toList))
    (hb : Below w.heap.size w wr) (hsz : w.heap.size < wr.heap.size) (hc1 : wr.cell? ⟨w.heap.size, 1, none⟩ = some (.slice a n cap)) (h1 : Below wr.heap.size wr w2) :
    InText n cap name a kf vf w (.string nw) (.int .i64 ((k : Int) + 1)) w2 ∧ n - (intOf (Value.int .i64 ((k : Int) + 1))).toNat < n - (intOf (Value.int .i64 (k : Int))).toNat := by
  refine ⟨⟨k + 1, nw, hk, by go_num, rfl, ?_, hb.trans (h1.mono (Nat.le_of_lt hsz)), Nat.lt_of_lt_of_le hsz h1.size, ?_⟩, ?_⟩
  · apply ba_ext
    rw [hnw, textTo_succ, ha, he, hv]
    simp [tagText]
  · rw [← hc1]; exact h1.cell hsz
  · simp [intOf]; omega
set_option maxHeartbeats 1000000 in
theorem text (name : ByteArray) (a : Option Addr) (n cap : Nat) (kf vf : Nat → ByteArray) (w : World) (hn : n < 2 ^ 63) (hname : name.size ≤ maxLen) (hks : ∀ i, (kf i).size ≤ maxLen ∧ (vf i).size ≤ maxLen)
    (ht : TagsAt w a n kf vf) : Calls Tryz.prog 26 #[.agg #[.string name, .slice a n cap]] w (Answer (.tuple #[.string (textB name n kf vf).1, .int .i64 (textB name n kf vf).2]) w) := by
  have HT := Lib.hid ht
  have HK := Lib.hid hks
  have hn0 : Hid (name.size ≤ maxLen) := Lib.hid hname
  clear ht hks hname
  cases hf : formedB name n kf vf with
  | false =>
    have HF := Lib.hid hf
    clear hf
    go_enter Tryz.func26, Tryz.ntmps26
    go_wp2_with fail
    refine (formed name a n cap kf vf _ hn hn0.out HK.out (by exact HT.out.later ((Below.refl _ _).alloc (Nat.le_refl _) _))).mono ?_
    rw [HF.out]
    rintro e w2 ⟨rfl, hb2⟩
    have HB2 := Lib.hid hb2
    clear hb2
    go_wp2_with fail
    go_ret2
    exact ⟨by simp [textB, HF.out], ((Below.refl _ _).alloc (Nat.le_refl _) _).trans (HB2.out.mono (by simp))⟩
  | true =>
    have HF := Lib.hid hf
    clear hf
    obtain ⟨hp1, hp2, hp3⟩ := formed_parts HF.out
    have HP := Lib.hid (And.intro hp1 hp3)
    clear hp1 hp3
    go_enter Tryz.func26, Tryz.ntmps26
    go_wp2_with fail
    refine (formed name a n cap kf vf _ hn hn0.out HK.out (by exact HT.out.later ((Below.refl _ _).alloc (Nat.le_refl _) _))).mono ?_
    rw [HF.out]
    rintro e w2 ⟨rfl, hb2⟩
    have hz0 : w2.cell? ⟨w.heap.size, 0, none⟩ = some (.string name) := (hb2.cell (by simp)).trans (by simp)
    have hz1 : w2.cell? ⟨w.heap.size, 1, none⟩ = some (.slice a n cap) := (hb2.cell (by simp)).trans (by simp)
    have hbw0 : Below w.heap.size w w2 := ((Below.refl _ _).alloc (Nat.le_refl _) _).trans (hb2.mono (by simp))
    have hsz0 : w.heap.size < w2.heap.size := by have := hb2.size; simp at this; omega
    have HB0 := Lib.hid hbw0
    clear hb2 hbw0
    have hnl := name_le HP.out.1
    have hns : name.size ≤ 64 := by simpa using hnl
    go_wp2_with fail
    refine (escape name w2 (by omega)).mono ?_
    rintro e w3 ⟨rfl, hb3⟩
    have hy1 : w3.cell? ⟨w.heap.size, 1, none⟩ = some (.slice a n cap) := (hb3.cell hsz0).trans hz1
    have HB3 := Lib.hid (HB0.out.trans (hb3.mono (Nat.le_of_lt hsz0)))
    have hsz3 : w.heap.size < w3.heap.size := Nat.lt_of_lt_of_le hsz0 hb3.size
    clear hb3 hz0 hz1
    go_wp2_with fail
    go_loopw [4, 16] (fun t i wr => InText n cap name a kf vf w t i wr) (fun _ i _ => n - (intOf i).toNat)
    case atStart => exact ⟨0, _, Nat.zero_le _, rfl, rfl, by simp [textTo], HB3.out, hsz3, hy1⟩
    case round =>
      clear hy1 hsz3 hsz0
      obtain ⟨k, acc, hk, rfl, rfl, hacc, hb, hsz, hc1⟩ := hrel
      have hal : acc.size ≤ 128 + 258 * k := by have := textTo_le HF.out hk; rw [hacc]; simpa [ByteArray.size] using this
      have HAC := Lib.hid hacc
      have HB := Lib.hid hb
      clear hacc hb
      by_cases hlt : k < n
      · obtain ⟨b, off, ha, hbw, hck, hcv⟩ := HT.out k hlt
        subst ha
        have hd1 : wr.cell? ⟨b, off + k * 2, none⟩ = some (.string (kf k)) := by rw [← hck]; exact HB.out.cell hbw
        have hd2 : wr.cell? ⟨b, off + k * 2 + 1, none⟩ = some (.string (vf k)) := by rw [← hcv]; exact HB.out.cell hbw
        have hbr : b < wr.heap.size := Nat.lt_of_lt_of_le hbw HB.out.size
        clear hck hcv
        obtain ⟨W, hW⟩ : ∃ W, W = wr.alloc (.cells #[.string (kf k), .string (vf k)] 82) := ⟨_, rfl⟩
        have f0 := cell_regrown (show W.cell? ⟨wr.heap.size, 0, none⟩ = some (.string (kf k)) by rw [hW]; simp)
        have f1 := cell_regrown (show W.cell? ⟨wr.heap.size, 1, none⟩ = some (.string (vf k)) by rw [hW]; simp)
        have HW := Lib.hid hW
        clear hW
        obtain ⟨nk, nv⟩ := HP.out.2 k hlt
        have lk := esc_name_le nk
        have lv := esc_name_le nv
        have sk := name_le nk
        have sv := name_le nv
        obtain ⟨ek, hek⟩ : ∃ ek : ByteArray, ek = ⟨(esc (kf k).data.toList).toArray⟩ := ⟨_, rfl⟩
        obtain ⟨ev, hev⟩ : ∃ ev : ByteArray, ev = ⟨(esc (vf k).data.toList).toArray⟩ := ⟨_, rfl⟩
        have zk : ek.size ≤ 128 := by rw [hek]; simpa [ByteArray.size] using lk
        have zv : ev.size ≤ 128 := by rw [hev]; simpa [ByteArray.size] using lv
        have ok : (kf k).size ≤ 70368744177664 := by have : (kf k).size ≤ 64 := by simpa using sk
                                                     omega
        have ov : (vf k).size ≤ 70368744177664 := by have : (vf k).size ≤ 64 := by simpa using sv
                                                     omega
        have cK := fun d os => Calls.regrown_of (v := .string ek) (by rw [hek]; exact escape (kf k) (grow (redrawn W d) os) ok)
        have cV := fun d os => Calls.regrown_of (v := .string ev) (by rw [hev]; exact escape (vf k) (grow (redrawn W d) os) ov)
        have HEK := Lib.hid (And.intro hek hev)
        clear hek hev nk nv lk lv sk sv ok ov
        go_wp2_with fail
        rw [← HW.out]
        refine wp_region_quiet_below (by kernel_rfl) (by kernel_rfl) ?_
        repeat (go_big_quiet_step ((first | with_reducible exact cK _ _ | with_reducible exact cV _ _)))
        refine wpQuiet_nil ?_
        intro w2 hw2
        have hb2 := below_of_regrown hw2
        have HB2 := Lib.hid hb2
        clear hw2 hb2
        go_wp2
        have HB3' := HB2.out
        rw [HW.out] at HB3'
        exact inText_next hlt HAC.out HEK.out.1 HEK.out.2 (by simp) HB.out hsz hc1 (((Below.refl _ _).alloc (Nat.le_refl _) _).trans (HB3'.mono (by simp)))
      · have hke : k = n := by omega
        have HAN := Lib.hid (show acc = ⟨(textTo name kf vf n).toArray⟩ by rw [← hke]; exact HAC.out)
        clear hke
        go_wp2_with fail
        go_ret2
        refine ⟨?_, HB.out⟩
        rw [HAN.out]
        simp [textB, HF.out]
end Go.Proofs.YtagiddbfhlokcaaGreatDoor.Ser
/- The reference's text of a row. Conditions: the tables of powers. -/
namespace Go.Proofs.YtagiddbfhlokcaaGreatDoor.Ser
open Go.RowKit Go.Sort Ff
set_option maxRecDepth 100000
/-- A field's text, the sign ahead of it. -/
def fText (T : Nat → Nat × Nat) (L : List Fd) (i : Nat) : List UInt8 := (if i = 0 then 32 else 44) :: (esc (fE L i).1.data.toList ++ 61 :: pv T (fE L i).2.1 (fE L i).2.2.1.toNat (fE L i).2.2.2)
def rTo (T : Nat → Nat × Nat) (name : ByteArray) (n : Nat) (kf vf : Nat → ByteArray) (L : List Fd) (k : Nat) : List UInt8 := textTo name kf vf n ++ (List.range k).flatMap (fText T L)
def rText (T : Nat → Nat × Nat) (name : ByteArray) (n : Nat) (kf vf : Nat → ByteArray) (L : List Fd) (tm : Int) : List UInt8 := rTo T name n kf vf L L.length ++ 32 :: Lib.itoa tm
theorem rTo_succ (T : Nat → Nat × Nat) (name : ByteArray) (n : Nat) (kf vf : Nat → ByteArray) (L : List Fd) (k : Nat) : rTo T name n kf vf L (k + 1) = rTo T name n kf vf L k ++ fText T L k := by
  unfold rTo
  rw [List.range_succ, List.flatMap_append, List.append_assoc]
  simp
theorem pv_len {T : Nat → Nat × Nat} (hP : PF.TabPow (tabF T)) {k : Int} {x : Nat} {t : ByteArray} (hx : x < 18446744073709551616) (h : formV k (x : Int) t = true) : 1 ≤ (pv T k x t).length ∧ (pv T k x t).length ≤ 140002 := by
  unfold pv
  by_cases h1 : k = 1
  · subst h1
    rw [if_pos rfl]
    have hfin : PF.Fin x := by
      rw [formV_1, Bool.and_eq_true] at h
      obtain ⟨f1, f2, f3⟩ := finB_cases x
      rcases PF.sorts x with g | g | g
      · exact g
      · rw [f2 g] at h; exact absurd h.2 (by decide)
      · rw [f3 g] at h; exact absurd h.2 (by decide)
    obtain ⟨d1, d2, d3, d4, d5, d6⟩ := PF.fDec_any hP (r := x % 9223372036854775808) hfin
    have := PF.flTx_len (decide (9223372036854775808 ≤ x)) d2 d3 d4 d5
    unfold PF.flText
    omega
  · rw [if_neg h1]
    by_cases h2 : k = 2
    · rw [if_pos h2]
      obtain ⟨s1, s2, s3⟩ := sg64_wrap x hx
      have := itoa_len20 s2 s3
      rw [List.length_append, List.length_singleton]
      omega
    · rw [if_neg h2]
      by_cases h3 : k = 3
      · rw [if_pos h3]
        split <;> simp
      · rw [if_neg h3]
        have h4 : k = 4 := by
          refine Classical.byContradiction fun h4 => ?_
          rw [formV_o k _ t h1 h2 h3 h4] at h
          cases h
        subst h4
        rw [formV_4, Bool.and_eq_true, decide_eq_true_eq, decide_eq_true_eq] at h
        have hl : t.data.toList.length ≤ 65536 := Nat.le_trans (Nat.le_of_eq (Array.length_toList)) h.2
        have := PF.quo_len t.data.toList
        unfold PF.quoted
        rw [List.length_cons, List.length_append, List.length_singleton]
        omega
theorem fText_len {T : Nat → Nat × Nat} (hP : PF.TabPow (tabF T)) {L : List Fd} {i : Nat} (hs : fstep L i = true) (hf : FdOk (fE L i)) : (fText T L i).length ≤ 140200 := by
  unfold fstep at hs
  rw [Bool.and_eq_true, Bool.and_eq_true] at hs
  have e : (((fE L i).2.2.1.toNat : Nat) : Int) = (fE L i).2.2.1 := by have := hf.2; omega
  have h1 := esc_name_le hs.1
  have h2 := pv_len hP (x := (fE L i).2.2.1.toNat) (by have := hf.2; omega) (by rw [e]; exact hs.2.1)
  unfold fText
  rw [List.length_cons, List.length_append, List.length_cons]
  omega
theorem rTo_len {T : Nat → Nat × Nat} (hP : PF.TabPow (tabF T)) {name : ByteArray} {n : Nat} {kf vf : Nat → ByteArray} {L : List Fd} (hF : formedB name n kf vf = true) (hfs : ∀ p ∈ L, FdOk p) : ∀ k, (List.range k).all (fstep L) = true → (rTo T name n kf vf L k).length ≤ 128 + 258 * n + 140200 * k
  | 0, _ => by
    unfold rTo
    rw [List.range_zero, List.flatMap_nil, List.append_nil]
    exact textTo_le hF (Nat.le_refl _)
  | k + 1, h => by
    rw [List.range_succ, List.all_append, Bool.and_eq_true] at h
    have h2 : fstep L k = true := by simpa using h.2
    have ih := rTo_len hP hF hfs k h.1
    have := fText_len hP h2 (fdOk_at hfs k)
    rw [rTo_succ, List.length_append]
    omega
def RowP (T : Nat → Nat × Nat) (name : ByteArray) (n : Nat) (kf vf : Nat → ByteArray) (L : List Fd) (tm : Int) (w : World) (e : Ending) (w' : World) : Prop :=
  e = .returned (.tuple #[.string (if rowB name n kf vf L then bs (rText T name n kf vf L tm) else ⟨#[]⟩), .int .i64 (if rowB name n kf vf L then 0 else 1)]) ∧ Below w.heap.size w w'
end Go.Proofs.YtagiddbfhlokcaaGreatDoor.Ser
/- slices.SortFunc at this dump, at tags and at fields, laid off the shelf by the kit's tools, in plain words. -/
namespace Go.Proofs
open Go.Shelf
def Tryz.sortT_ren : Go.Shelf.Ren := ⟨fun | 6 => 44 | 15 => 87 | 14 => 86 | 28 => 131 | 29 => 132 | 20 => 123 | 21 => 124 | 22 => 125 | 23 => 126 | 24 => 127 | 25 => 128 | 26 => 129 | 27 => 130 | 46 => 173 | 47 => 174 | 48 => 175 | 49 => 176 | 50 => 177 | 57 => 202 | n => n, fun | 22 => 22 | 24 => 82 | 25 => 93 | 3 => 3 | 39 => 60 | 0 => 0 | 53 => 147 | 55 => 51 | 4 => 4 | 46 => 176 | 45 => 175 | 50 => 83 | 5 => 5 | 9 => 9 | 66 => 210 | 70 => 214 | 76 => 247 | 77 => 248 | n => n, fun | n => n⟩
theorem Tryz.sortT : Go.Proofs.SlLaysF0.n6 Tryz.prog Tryz.sortT_ren := {
  mixed := by kernel_rfl
  f6 := ⟨Tryz.f44.name, by decide, Tryz.func44.trans (congrArg some (by kernel_rfl))⟩
  f14 := ⟨Tryz.f86.name, by decide, Tryz.func86.trans (congrArg some (by kernel_rfl))⟩
  f15 := Tryz.func87.trans (congrArg some (by kernel_rfl))
  f20 := ⟨Tryz.f123.name, by decide, Tryz.func123.trans (congrArg some (by kernel_rfl))⟩
  f21 := ⟨Tryz.f124.name, by decide, Tryz.func124.trans (congrArg some (by kernel_rfl))⟩
  f22 := ⟨Tryz.f125.name, by decide, Tryz.func125.trans (congrArg some (by kernel_rfl))⟩
  f23 := ⟨Tryz.f126.name, by decide, Tryz.func126.trans (congrArg some (by kernel_rfl))⟩
  f24 := ⟨Tryz.f127.name, by decide, Tryz.func127.trans (congrArg some (by kernel_rfl))⟩
  f25 := ⟨Tryz.f128.name, by decide, Tryz.func128.trans (congrArg some (by kernel_rfl))⟩
  f26 := ⟨Tryz.f129.name, by decide, Tryz.func129.trans (congrArg some (by kernel_rfl))⟩
  f27 := ⟨Tryz.f130.name, by decide, Tryz.func130.trans (congrArg some (by kernel_rfl))⟩
  f28 := Tryz.func131.trans (congrArg some (by kernel_rfl))
  f29 := Tryz.func132.trans (congrArg some (by kernel_rfl))
  f46 := ⟨Tryz.f173.name, by decide, Tryz.func173.trans (congrArg some (by kernel_rfl))⟩
  f47 := Tryz.func174.trans (congrArg some (by kernel_rfl))
  f48 := Tryz.func175.trans (congrArg some (by kernel_rfl))
  f49 := ⟨Tryz.f176.name, by decide, Tryz.func176.trans (congrArg some (by kernel_rfl))⟩
  f50 := ⟨Tryz.f177.name, by decide, Tryz.func177.trans (congrArg some (by kernel_rfl))⟩
  f57 := ⟨Tryz.f202.name, by decide, Tryz.func202.trans (congrArg some (by kernel_rfl))⟩
  t0 := Tryz.underlying0
  a0 := Tryz.isAgg0
  z0 := Tryz.sizeOf0
  v0 := Tryz.zeroValue0
  t3 := Tryz.underlying3
  a3 := Tryz.isAgg3
  z3 := Tryz.sizeOf3
  v3 := Tryz.zeroValue3
  t4 := Tryz.underlying4
  a4 := Tryz.isAgg4
  z4 := Tryz.sizeOf4
  v4 := Tryz.zeroValue4
  t5 := Tryz.underlying5
  a5 := Tryz.isAgg5
  z5 := Tryz.sizeOf5
  v5 := Tryz.zeroValue5
  t9 := Tryz.underlying9
  a9 := Tryz.isAgg9
  z9 := Tryz.sizeOf9
  v9 := Tryz.zeroValue9
  t22 := Tryz.underlying22
  a22 := Tryz.isAgg22
  z22 := Tryz.sizeOf22
  v22 := Tryz.zeroValue22
  t25 := Tryz.underlying93
  a25 := Tryz.isAgg93
  z25 := Tryz.sizeOf93
  v25 := Tryz.zeroValue93
  t39 := Tryz.underlying60
  a39 := Tryz.isAgg60
  z39 := Tryz.sizeOf60
  v39 := Tryz.zeroValue60
  t45 := Tryz.underlying175
  a45 := Tryz.isAgg175
  z45 := Tryz.sizeOf175
  v45 := Tryz.zeroValue175
  t46 := Tryz.underlying176
  a46 := Tryz.isAgg176
  z46 := Tryz.sizeOf176
  v46 := Tryz.zeroValue176
  t50 := Tryz.underlying83
  a50 := Tryz.isAgg83
  z50 := Tryz.sizeOf83
  v50 := Tryz.zeroValue83
  t53 := Tryz.underlying147
  a53 := Tryz.isAgg147
  z53 := Tryz.sizeOf147
  v53 := Tryz.zeroValue147
  t55 := Tryz.underlying51
  a55 := Tryz.isAgg51
  z55 := Tryz.sizeOf51
  v55 := Tryz.zeroValue51
  t66 := Tryz.underlying210
  a66 := Tryz.isAgg210
  z66 := Tryz.sizeOf210
  v66 := Tryz.zeroValue210
  t70 := Tryz.underlying214
  a70 := Tryz.isAgg214
  z70 := Tryz.sizeOf214
  v70 := Tryz.zeroValue214
  t76 := Tryz.underlying247
  a76 := Tryz.isAgg247
  z76 := Tryz.sizeOf247
  v76 := Tryz.zeroValue247
  t77 := Tryz.underlying248
  a77 := Tryz.isAgg248
  z77 := Tryz.sizeOf248
  v77 := Tryz.zeroValue248 }
def Tryz.sortF_ren : Go.Shelf.Ren := ⟨fun | 6 => 47 | 15 => 87 | 14 => 89 | 28 => 131 | 29 => 132 | 20 => 133 | 21 => 134 | 22 => 135 | 23 => 136 | 24 => 137 | 25 => 138 | 26 => 139 | 27 => 140 | 46 => 178 | 47 => 174 | 48 => 175 | 49 => 179 | 50 => 180 | 57 => 203 | n => n, fun | 22 => 25 | 24 => 64 | 25 => 95 | 3 => 3 | 39 => 60 | 0 => 0 | 53 => 147 | 55 => 51 | 4 => 4 | 46 => 176 | 45 => 175 | 50 => 83 | 5 => 5 | 9 => 9 | 66 => 210 | 70 => 214 | 76 => 247 | 77 => 248 | n => n, fun | n => n⟩
theorem Tryz.sortF : Go.Proofs.SlLaysF0.n6 Tryz.prog Tryz.sortF_ren := {
  mixed := by kernel_rfl
  f6 := ⟨Tryz.f47.name, by decide, Tryz.func47.trans (congrArg some (by kernel_rfl))⟩
  f14 := ⟨Tryz.f89.name, by decide, Tryz.func89.trans (congrArg some (by kernel_rfl))⟩
  f15 := Tryz.func87.trans (congrArg some (by kernel_rfl))
  f20 := ⟨Tryz.f133.name, by decide, Tryz.func133.trans (congrArg some (by kernel_rfl))⟩
  f21 := ⟨Tryz.f134.name, by decide, Tryz.func134.trans (congrArg some (by kernel_rfl))⟩
  f22 := ⟨Tryz.f135.name, by decide, Tryz.func135.trans (congrArg some (by kernel_rfl))⟩
  f23 := ⟨Tryz.f136.name, by decide, Tryz.func136.trans (congrArg some (by kernel_rfl))⟩
  f24 := ⟨Tryz.f137.name, by decide, Tryz.func137.trans (congrArg some (by kernel_rfl))⟩
  f25 := ⟨Tryz.f138.name, by decide, Tryz.func138.trans (congrArg some (by kernel_rfl))⟩
  f26 := ⟨Tryz.f139.name, by decide, Tryz.func139.trans (congrArg some (by kernel_rfl))⟩
  f27 := ⟨Tryz.f140.name, by decide, Tryz.func140.trans (congrArg some (by kernel_rfl))⟩
  f28 := Tryz.func131.trans (congrArg some (by kernel_rfl))
  f29 := Tryz.func132.trans (congrArg some (by kernel_rfl))
  f46 := ⟨Tryz.f178.name, by decide, Tryz.func178.trans (congrArg some (by kernel_rfl))⟩
  f47 := Tryz.func174.trans (congrArg some (by kernel_rfl))
  f48 := Tryz.func175.trans (congrArg some (by kernel_rfl))
  f49 := ⟨Tryz.f179.name, by decide, Tryz.func179.trans (congrArg some (by kernel_rfl))⟩
  f50 := ⟨Tryz.f180.name, by decide, Tryz.func180.trans (congrArg some (by kernel_rfl))⟩
  f57 := ⟨Tryz.f203.name, by decide, Tryz.func203.trans (congrArg some (by kernel_rfl))⟩
  t0 := Tryz.underlying0
  a0 := Tryz.isAgg0
  z0 := Tryz.sizeOf0
  v0 := Tryz.zeroValue0
  t3 := Tryz.underlying3
  a3 := Tryz.isAgg3
  z3 := Tryz.sizeOf3
  v3 := Tryz.zeroValue3
  t4 := Tryz.underlying4
  a4 := Tryz.isAgg4
  z4 := Tryz.sizeOf4
  v4 := Tryz.zeroValue4
  t5 := Tryz.underlying5
  a5 := Tryz.isAgg5
  z5 := Tryz.sizeOf5
  v5 := Tryz.zeroValue5
  t9 := Tryz.underlying9
  a9 := Tryz.isAgg9
  z9 := Tryz.sizeOf9
  v9 := Tryz.zeroValue9
  t22 := Tryz.underlying25
  a22 := Tryz.isAgg25
  z22 := Tryz.sizeOf25
  v22 := Tryz.zeroValue25
  t25 := Tryz.underlying95
  a25 := Tryz.isAgg95
  z25 := Tryz.sizeOf95
  v25 := Tryz.zeroValue95
  t39 := Tryz.underlying60
  a39 := Tryz.isAgg60
  z39 := Tryz.sizeOf60
  v39 := Tryz.zeroValue60
  t45 := Tryz.underlying175
  a45 := Tryz.isAgg175
  z45 := Tryz.sizeOf175
  v45 := Tryz.zeroValue175
  t46 := Tryz.underlying176
  a46 := Tryz.isAgg176
  z46 := Tryz.sizeOf176
  v46 := Tryz.zeroValue176
  t50 := Tryz.underlying83
  a50 := Tryz.isAgg83
  z50 := Tryz.sizeOf83
  v50 := Tryz.zeroValue83
  t53 := Tryz.underlying147
  a53 := Tryz.isAgg147
  z53 := Tryz.sizeOf147
  v53 := Tryz.zeroValue147
  t55 := Tryz.underlying51
  a55 := Tryz.isAgg51
  z55 := Tryz.sizeOf51
  v55 := Tryz.zeroValue51
  t66 := Tryz.underlying210
  a66 := Tryz.isAgg210
  z66 := Tryz.sizeOf210
  v66 := Tryz.zeroValue210
  t70 := Tryz.underlying214
  a70 := Tryz.isAgg214
  z70 := Tryz.sizeOf214
  v70 := Tryz.zeroValue214
  t76 := Tryz.underlying247
  a76 := Tryz.isAgg247
  z76 := Tryz.sizeOf247
  v76 := Tryz.zeroValue247
  t77 := Tryz.underlying248
  a77 := Tryz.isAgg248
  z77 := Tryz.sizeOf248
  v77 := Tryz.zeroValue248 }
end Go.Proofs
