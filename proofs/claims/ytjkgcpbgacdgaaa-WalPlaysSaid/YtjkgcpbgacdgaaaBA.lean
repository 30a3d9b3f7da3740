/- A number as its bytes. No condition but the size. -/
import Derived.Test.YtjkgcpbgacdgaaaV
import Derived.Laws.AppendOwnNone
import Derived.Deep.Slices
import Derived.OwnWalk
import Derived.WalkSpells
namespace Go.Proofs.Ytjkgcpbgacdgaaa
open Go.RowKit
/-- A number's byte, counted from its end; all its bytes. -/
def numV (n : Int) (i : Nat) : Value := .int .u8 (IntKind.u8.wrap (n / 2 ^ (8 * (i : Int)).toNat))
def numL (n : Int) (size : Nat) : List Value := (List.range size).map fun j => numV n (size - 1 - j)
theorem numL_len (n : Int) (size : Nat) : (numL n size).length = size := by simp [numL]
theorem numL_of {n : Int} {size : Nat} {xs : List Value} (hl : xs.length = size) (h : ∀ i, i < size → xs[size - 1 - i]? = some (numV n i)) : xs = numL n size := by
  apply List.ext_getElem?
  intro j
  by_cases hj : j < size
  · have h1 := h (size - 1 - j) (by omega)
    rw [show size - 1 - (size - 1 - j) = j by omega] at h1
    rw [h1]
    simp [numL, hj]
  · rw [List.getElem?_eq_none (by omega), List.getElem?_eq_none (by rw [numL_len]; omega)]
def InNum (w : World) (n : Int) (size : Nat) (v i : Value) (wr : World) : Prop := ∃ (k : Nat) (xs : List Value), k ≤ size ∧ i = .int .i64 k ∧ wr.ownsRow w.heap.size 5 1 v size xs ∧ Below w.heap.size w wr ∧ ∀ i, i < k → xs[size - 1 - i]? = some (numV n i)
theorem ownsRow_set5 {w : World} {base n g c i : Nat} {xs : List Value} {u : Value} (h : w.ownsRow base 5 1 (.slice (some ⟨g, 0, none⟩) n c) n xs) (_hi : i < n) : (w.setCell ⟨g, i, none⟩ u).ownsRow base 5 1 (.slice (some ⟨g, 0, none⟩) n c) n (xs.set i u) := by
  refine ⟨by rw [List.length_set]; exact h.1, ?_⟩
  rcases h.2 with ⟨h1, _⟩ | ⟨g', c', cur, h1, h2, h3, h4, h5, h6, h7⟩
  · cases h1
  · cases h1
    refine .inr ⟨g, c, cur.set! i u, rfl, h2, heap_setCell_same w g i cur 5 u h3, h4, h5, by simpa using h6, ?_⟩
    rw [← h7]
    simp only [Nat.mul_one, Array.set!_eq_setIfInBounds, Array.toList_setIfInBounds]
    rw [List.take_set]
theorem set_num {n : Int} {size k j : Nat} {xs : List Value} (h : ∀ i, i < k → xs[size - 1 - i]? = some (numV n i)) (hj : size = k + 1 + j) (hl : j < xs.length) (i : Nat) (hi : i < k + 1) : (xs.set j (numV n k))[size - 1 - i]? = some (numV n i) := by
  by_cases he : i = k
  · subst he
    rw [show size - 1 - i = j by omega, List.getElem?_set_self hl]
  · rw [List.getElem?_set_ne (by omega)]
    exact h i (by omega)
theorem zinfoB : (Try.prog.info? 5).map (fun i => (i.zero, i.size, i.bytes)) = some (some (.int .u8 0), 1, 1) := by kernel_rfl
theorem zpartsB : ∃ i, Try.prog.info? 5 = some i ∧ i.zero = some (.int .u8 0) ∧ i.size = 1 ∧ i.bytes = 1 := by
  have e1 := zinfoB
  cases h : Try.prog.info? 5 with
  | none => rw [h] at e1; cases e1
  | some i =>
    rw [h] at e1
    simp only [Option.map_some, Option.some.injEq, Prod.mk.injEq] at e1
    exact ⟨i, rfl, e1.1, e1.2.1, e1.2.2⟩
set_option maxRecDepth 100000 in
theorem number (n : Int) (size : Nat) (hs : size ≤ 8) (w : World) : Calls Try.prog 70 #[.int .i64 n, .int .i64 size] w fun e w' => ∃ v, e = .returned v ∧ w'.ownsRow w.heap.size 5 1 v size (numL n size) ∧ Below w.heap.size w w' := by
  obtain ⟨i0, hi, hz0, hz1, hz2⟩ := zpartsB
  have HI := Lib.hid hi
  have HZ0 := Lib.hid hz0
  have HZ1 := Lib.hid hz1
  have HZ2 := Lib.hid hz2
  clear hi hz0 hz1 hz2
  go_enter Try.func70, Try.ntmps70
  go_wp2_with (refine wpList_make_full w rfl _ _ 23 rfl w.heap.size 5 i0 (.int .u8 0) 1 Try.underlying23 HI.out HZ0.out HZ1.out .i64 .i64 size size size rfl rfl rfl rfl (by rw [HZ2.out]; omega) (by unfold maxLen; omega) (Nat.le_refl _) ?_; intro w1 hown hgrow; have HO1 := Lib.hid hown; have HB1 := Lib.hid ((Below.refl w.heap.size w).grown hgrow (Nat.le_refl _) (fun j hj => by cases hj)); clear hown hgrow)
  go_loopw [11] (fun i wr => InNum w n size (.slice (some ⟨w.heap.size, 0, none⟩) size size) i wr) (fun i _ => size - (intOf i).toNat)
  case atStart => exact ⟨0, _, Nat.zero_le _, rfl, HO1.out, HB1.out, fun i hi => absurd hi (Nat.not_lt_zero _)⟩
  case round =>
    obtain ⟨k, xs, hk, rfl, ho, hb, hx⟩ := hrel
    have HX := Lib.hid hx
    have HO := Lib.hid ho
    have HB := Lib.hid hb
    clear ho hb hx
    by_cases hlt : k < size
    · obtain ⟨j, hj⟩ : ∃ j, size = k + 1 + j := ⟨size - (k + 1), by omega⟩
      have hjk : (size : Int) - 1 - k = (j : Nat) := by omega
      obtain ⟨u, hu⟩ : ∃ u, xs[j]? = some u := ⟨_, List.getElem?_eq_getElem (by rw [HO.out.1]; omega)⟩
      have hc : wr.cell? ⟨w.heap.size, j, none⟩ = some u := by
        have := HO.out.cellAt j (by omega)
        rw [this, hu]
      have hf : wr.frozen? ⟨w.heap.size, j, none⟩ = false := by
        rcases HO.out.2 with ⟨h1, _⟩ | ⟨g', c', cur, h1, _, h3, _⟩
        · cases h1
        · cases h1; simp [World.frozen?, h3]
      have HJ := Lib.hid hj
      have hjs : j < size := by omega
      have h80 : (0 : Int) ≤ 8 * (k : Int) := by omega
      have h81 : 8 * (k : Int) ≤ 64 := by omega
      clear hu hj
      go_wp2_with fail
      go_roundw
      case rel => exact ⟨k + 1, _, by omega, by go_num, ownsRow_set5 HO.out hjs, HB.out.setCell (Nat.le_refl _) _, fun i hi => set_num HX.out HJ.out (by rw [HO.out.1]; omega) i hi⟩
      case measure => simp [intOf]; omega
    · have hk' : ¬ k < size := hlt
      go_wp2_with fail
      go_ret
      have hks : k = size := by omega
      rw [← numL_of (n := n) (xs := xs) (by rw [HO.out.1]; omega) (by rw [← hks]; intro i hi; have := HX.out i hi; rwa [← hks] at this)]
      exact ⟨_, rfl, HO.out, HB.out⟩
end Go.Proofs.Ytjkgcpbgacdgaaa
