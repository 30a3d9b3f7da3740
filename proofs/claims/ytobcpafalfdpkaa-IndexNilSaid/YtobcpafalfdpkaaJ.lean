/- A tag by its key, by the program and by the reference. Condition: none but the sizes of what is read. -/
import Derived.Test.YtobcpafalfdpkaaH
namespace Go.Proofs.Ytobcpafalfdpkaa
open Go.RowKit Go.Sort
def keyAt (kf : Nat → ByteArray) (key : ByteArray) (i : Nat) : Bool := (kf i).toList == key.toList
def findB (n : Nat) (kf : Nat → ByteArray) (key : ByteArray) : Option Nat := (List.range n).find? (keyAt kf key)
theorem findB_some {n k : Nat} {kf : Nat → ByteArray} {key : ByteArray} (hk : k < n) (h : keyAt kf key k = true) (hno : ∀ j, j < k → keyAt kf key j = false) : findB n kf key = some k := by
  unfold findB
  rw [List.find?_eq_some_iff_getElem]
  refine ⟨h, k, by simpa using hk, by simp, fun j hj => ?_⟩
  simp [hno j hj]
theorem findB_none {n : Nat} {kf : Nat → ByteArray} {key : ByteArray} (hno : ∀ j, j < n → keyAt kf key j = false) : findB n kf key = none := by
  unfold findB
  rw [List.find?_eq_none]
  intro j hj
  simp at hj
  simp [hno j hj]
theorem findB_lt {n k : Nat} {kf : Nat → ByteArray} {key : ByteArray} (h : findB n kf key = some k) : k < n := by
  have := List.mem_of_find?_eq_some h
  simpa using this
theorem closure (k v key : ByteArray) (c : Nat) (w : World) (hc : w.cell? ⟨c, 0, none⟩ = some (.string key)) : Calls Try.prog 62 #[.agg #[.string k, .string v], .pointer (some ⟨c, 0, none⟩)] w (Answer (.bool (k.toList == key.toList)) w) := by
  have hcw := World.block_lt_of_cell? w _ hc
  have hc' : (w.alloc (.cells #[.string k, .string v] 51)).cell? ⟨c, 0, none⟩ = some (.string key) := alloc_cell hc
  simp only at hcw
  go_enter Try.func62, Try.ntmps62
  go_wp2
  go_ret
  exact ⟨rfl, (Below.refl _ _).alloc (Nat.le_refl _) _⟩
def idxOf (o : Option Nat) : Int := match o with | some k => k | none => -1
def InIdx (n : Nat) (kf : Nat → ByteArray) (key : ByteArray) (w : World) (i : Value) (wr : World) : Prop := ∃ k : Nat, k ≤ n ∧ i = .int .i64 k ∧ (∀ j, j < k → keyAt kf key j = false) ∧ Below w.heap.size w wr
theorem indexFunc (a : Option Addr) (n cap c : Nat) (kf vf : Nat → ByteArray) (key : ByteArray) (w : World) (hn : n < 2 ^ 63) (ht : TagsAt w a n kf vf) (hc : w.cell? ⟨c, 0, none⟩ = some (.string key)) :
    Calls Try.prog 61 #[.slice a n cap, .func (.func 62) #[] #[.pointer (some ⟨c, 0, none⟩)]] w (Answer (.int .i64 (idxOf (findB n kf key))) w) := by
  have HT := Lib.hid ht
  have HC := Lib.hid hc
  have hcw := World.block_lt_of_cell? w _ hc
  simp only at hcw
  clear ht hc
  go_enter Try.func61, Try.ntmps61
  go_wp2
  go_loopw [8] (fun i wr => InIdx n kf key w i wr) (fun i _ => n - (intOf i).toNat)
  case atStart => exact ⟨0, Nat.zero_le _, rfl, fun j hj => absurd hj (by omega), Below.refl _ _⟩
  case round =>
    obtain ⟨k, hk, rfl, hno, hb⟩ := hrel
    have HN := Lib.hid hno
    have HB := Lib.hid hb
    clear hno hb
    by_cases hlt : k < n
    · obtain ⟨b, off, ha, hbw, hck, hcv⟩ := HT.out k hlt
      subst ha
      have hd1 : wr.cell? ⟨b, off + k * 2, none⟩ = some (.string (kf k)) := by rw [← hck]; exact HB.out.cell hbw
      have hd2 : wr.cell? ⟨b, off + k * 2 + 1, none⟩ = some (.string (vf k)) := by rw [← hcv]; exact HB.out.cell hbw
      have hcr : wr.cell? ⟨c, 0, none⟩ = some (.string key) := (HB.out.cell hcw).trans HC.out
      have HCR := Lib.hid hcr
      clear hck hcv hcr
      cases e1 : keyAt kf key k with
      | true =>
        have HF := Lib.hid (findB_some hlt e1 HN.out)
        have HE := Lib.hid (show ((kf k).toList == key.toList) = true from e1)
        clear e1
        go_wp2_with fail
        refine (closure _ _ key c wr HCR.out).mono ?_
        rw [HE.out]
        rintro e w2 ⟨rfl, hb2⟩
        have HB2 := Lib.hid hb2
        clear hb2
        go_wp2_with fail
        go_ret
        exact ⟨by rw [HF.out]; rfl, HB.out.trans (HB2.out.mono HB.out.size)⟩
      | false =>
        have HE := Lib.hid (show ((kf k).toList == key.toList) = false from e1)
        have HE1 := Lib.hid e1
        clear e1
        go_wp2_with fail
        refine (closure _ _ key c wr HCR.out).mono ?_
        rw [HE.out]
        rintro e w2 ⟨rfl, hb2⟩
        have HB2 := Lib.hid hb2
        clear hb2
        go_wp2_with fail
        go_roundw
        case rel => exact ⟨k + 1, hlt, by go_num, fun j hj => by
          by_cases h : j = k
          · rw [h]; exact HE1.out
          · exact HN.out j (by omega), HB.out.trans (HB2.out.mono HB.out.size)⟩
        case measure => simp [intOf]; omega
    · have hke : k = n := by omega
      have HF := Lib.hid (findB_none (n := n) (kf := kf) (key := key) (fun j hj => HN.out j (by omega)))
      clear hke
      go_wp2_with fail
      go_ret
      exact ⟨by rw [HF.out]; rfl, HB.out⟩
def tagB (n : Nat) (kf vf : Nat → ByteArray) (key : ByteArray) : ByteArray × Bool := match findB n kf key with | some k => (vf k, true) | none => (⟨#[]⟩, false)
theorem tag (name : ByteArray) (a : Option Addr) (n cap : Nat) (kf vf : Nat → ByteArray) (key : ByteArray) (w : World) (hn : n < 2 ^ 63) (ht : TagsAt w a n kf vf) :
    Calls Try.prog 36 #[.agg #[.string name, .slice a n cap], .string key] w (Answer (.tuple #[.string (tagB n kf vf key).1, .bool (tagB n kf vf key).2]) w) := by
  have HT := Lib.hid ht
  clear ht
  go_enter Try.func36, Try.ntmps36
  go_wp2_with fail
  refine (indexFunc a n cap _ kf vf key _ hn (by exact HT.out.later (((Below.refl _ _).alloc (Nat.le_refl _) _).alloc (by simp) _)) (by simp)).mono ?_
  cases hf : findB n kf key with
  | none =>
    rintro e w2 ⟨rfl, hb2⟩
    have HB2 := Lib.hid hb2
    have HF := Lib.hid hf
    clear hb2 hf
    unfold idxOf
    go_wp2_with fail
    go_ret2
    exact ⟨by simp [tagB, HF.out], (((Below.refl _ _).alloc (Nat.le_refl _) _).alloc (by simp) _).trans (HB2.out.mono (by simp; omega))⟩
  | some k =>
    have hlt := findB_lt hf
    rintro e w2 ⟨rfl, hb2⟩
    have hc1 : w2.cell? ⟨w.heap.size, 1, none⟩ = some (.slice a n cap) := (hb2.cell (by simp; omega)).trans (by simp)
    have hbb : Below w.heap.size w w2 := (((Below.refl _ _).alloc (Nat.le_refl _) _).alloc (by simp) _).trans (hb2.mono (by simp; omega))
    obtain ⟨b, off, rfl, hbw, _, hcv⟩ := HT.out k hlt
    have hd2 : w2.cell? ⟨b, off + k * 2 + 1, none⟩ = some (.string (vf k)) := by rw [← hcv]; exact hbb.cell hbw
    have HB2 := Lib.hid hbb
    have HF := Lib.hid hf
    clear hb2 hbb hf hcv
    unfold idxOf
    dsimp only
    go_wp2_with fail
    go_ret2
    exact ⟨by simp [tagB, HF.out], HB2.out⟩
end Go.Proofs.Ytobcpafalfdpkaa
