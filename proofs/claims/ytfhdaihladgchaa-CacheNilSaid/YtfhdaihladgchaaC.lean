/- The places of a range of times; a row of points is copied. Condition: the points rise. -/
import Derived.Test.YtfhdaihladgchaaB
import Derived.OwnWalk
import Derived.Lib.LazyBuf
namespace Go.Proofs.Ytfhdaihladgchaa
open Go.RowKit
def loI (l : List Pt) (t : Int) : Nat := (l.takeWhile fun p => decide (p.t < t)).length
def hiI (l : List Pt) (t : Int) : Nat := (l.takeWhile fun p => decide (p.t ≤ t)).length
theorem takeWhile_len {α : Type} (q : α → Bool) : ∀ (l : List α) (i : Nat), i ≤ l.length → (∀ j, (hj : j < l.length) → j < i → q l[j] = true) → (∀ hi : i < l.length, q l[i] = false) → (l.takeWhile q).length = i
  | [], i, hi, _, _ => by simp at hi; subst hi; rfl
  | x :: r, 0, _, _, h0 => by
    have := h0 (by simp)
    simp at this
    simp [this]
  | x :: r, i + 1, hi, h, h0 => by
    have hx := h 0 (by simp) (by omega)
    simp at hx
    have ih := takeWhile_len q r i (by simpa using hi) (fun j hj hji => by have := h (j + 1) (by simpa using hj) (by omega); simpa using this) (fun hi' => by have := h0 (by simpa using hi'); simpa using this)
    simp [hx, ih]
theorem at_lo {l : List Pt} {t : Int} {i : Nat} {f : Bool} (h : At l t i f) : loI l t = i :=
  takeWhile_len _ l i h.1 (fun j hj hji => by simpa using h.2.1 j hj hji) (fun hi => by have := h.2.2.1 i hi (Nat.le_refl _); simp; exact this)
theorem at_hi {l : List Pt} {t : Int} {i : Nat} {f : Bool} (hr : Rises l) (h : At l t i f) : hiI l t = if f then i + 1 else i := by
  cases f with
  | true =>
    obtain ⟨hi, he⟩ := h.2.2.2.1 rfl
    refine takeWhile_len _ l (i + 1) hi (fun j hj hji => ?_) (fun hi' => ?_)
    · by_cases hji' : j = i
      · subst hji'; simp [he]
      · have := h.2.1 j hj (by omega); simp; omega
    · have := (List.pairwise_iff_getElem.1 hr) i (i + 1) hi hi' (by omega)
      simp; omega
  | false =>
    refine takeWhile_len _ l i h.1 (fun j hj hji => by have := h.2.1 j hj hji; simp; omega) (fun hi => ?_)
    have h1 := h.2.2.1 i hi (Nat.le_refl _)
    have h2 : l[i].t ≠ t := fun e => by have := h.2.2.2.2 ⟨hi, e⟩; cases this
    simp; omega
theorem loI_le (l : List Pt) (t : Int) : loI l t ≤ l.length := (List.takeWhile_prefix _).length_le
theorem hiI_le (l : List Pt) (t : Int) : hiI l t ≤ l.length := (List.takeWhile_prefix _).length_le
theorem place (w : World) (base : Nat) (v : Value) (l : List Pt) (t : Int) (hs : w.ownsRow base 33 4 v l.length (ptC l)) (hr : Rises l) (hn : l.length ≤ 1000000000000) :
    Calls Try.prog 23 #[v, .int .i64 t] w fun e w' => ∃ (i : Nat) (f : Bool), e = .returned (.tuple #[.int .i64 i, .bool f]) ∧ At l t i f ∧ Below w.heap.size w w' := by
  have HS := Lib.hid hs
  have HR := Lib.hid hr
  clear hs hr
  go_enter Try.func23, Try.ntmps23
  go_wp2_with fail
  refine (search w base v l t HS.out HR.out hn).mono ?_
  rintro e w1 ⟨i, f, rfl, hat, hb⟩
  have HA := Lib.hid hat
  have HB := Lib.hid hb
  clear hat hb
  go_wp2_with fail
  go_ret2
  exact ⟨i, f, rfl, HA.out, HB.out⟩
theorem row_later {w w' : World} {base n size : Nat} {e : TypeId} {v : Value} {xs : List Value} (h : w.ownsRow base e size v n xs) (hb : Below w.heap.size w w') : w'.ownsRow base e size v n xs :=
  ownsRow_same h fun g hg => hb.block g (h.lt g hg).2
theorem ret2_int {x y x' y' : Int} (h1 : x = x') (h2 : y = y') : Ending.returned (.tuple #[.int .i64 x, .int .i64 y]) = .returned (.tuple #[.int .i64 x', .int .i64 y']) := by rw [h1, h2]
/-- Where a range of times ends. -/
def endI (l : List Pt) (a b : Int) : Nat := max (loI l a) (hiI l b)
set_option maxRecDepth 100000 in
theorem between (w : World) (base : Nat) (v : Value) (l : List Pt) (a b : Int) (hs : w.ownsRow base 33 4 v l.length (ptC l)) (hr : Rises l) (hn : l.length ≤ 1000000000000) :
    Calls Try.prog 25 #[v, .int .i64 a, .int .i64 b] w fun e w' => e = .returned (.tuple #[.int .i64 (loI l a), .int .i64 (endI l a b)]) ∧ Below w.heap.size w w' := by
  have HS := Lib.hid hs
  have HR := Lib.hid hr
  clear hs hr
  go_enter Try.func25, Try.ntmps25
  go_wp2_with fail
  refine (place w base v l a HS.out HR.out hn).mono ?_
  rintro e w1 ⟨i, f, rfl, hat, hb⟩
  have HA := Lib.hid (at_lo hat)
  have HB := Lib.hid hb
  have hil : i ≤ 1000000000000 := Nat.le_trans hat.1 hn
  clear hat hb
  go_wp2_with fail
  refine (place w1 base v l b (row_later HS.out HB.out) HR.out hn).mono ?_
  rintro e w2 ⟨j, g, rfl, hat, hb⟩
  have HA2 := Lib.hid (at_hi HR.out hat)
  have HB2 := Lib.hid hb
  have hjl : j ≤ 1000000000000 := Nat.le_trans hat.1 hn
  clear hat hb
  have hend : ((endI l a b : Nat) : Int) = if (i : Int) < (if g then (j : Int) + 1 else j) then (if g then (j : Int) + 1 else j) else i := by
    have h1 := HA2.out
    simp only [endI, HA.out, h1]
    cases g <;> simp <;> split <;> omega
  have HE := Lib.hid hend
  have HA' := HA
  clear hend
  cases g with
  | true =>
    go_wp2_with fail
    all_goals
      go_ret2
      refine ⟨ret2_int (by rw [HA'.out]) ?_, HB.out.trans (HB2.out.mono HB.out.size)⟩
      rw [HE.out]
      simp only [if_true]
      split <;> omega
  | false =>
    go_wp2_with fail
    all_goals
      go_ret2
      refine ⟨ret2_int (by rw [HA'.out]) ?_, HB.out.trans (HB2.out.mono HB.out.size)⟩
      rw [HE.out]
      simp only [Bool.false_eq_true, if_false]
      split <;> omega
theorem zinfo33 : (Try.prog.info? 33).map (fun i => (i.size, i.bytes, i.zero.map (·.cells.size))) = some (4, 40, some 4) := by kernel_rfl
theorem zparts33 : ∃ i z, Try.prog.info? 33 = some i ∧ i.zero = some z ∧ i.size = 4 ∧ i.bytes = 40 ∧ z.cells.size = 4 := by
  have e1 := zinfo33
  cases h : Try.prog.info? 33 with
  | none => rw [h] at e1; cases e1
  | some i =>
    rw [h] at e1
    simp only [Option.map_some, Option.some.injEq, Prod.mk.injEq] at e1
    obtain ⟨h1, h2, h3⟩ := e1
    cases hz : i.zero with
    | none => rw [hz] at h3; cases h3
    | some z =>
      rw [hz] at h3
      exact ⟨i, z, rfl, hz, h1, h2, by simpa using h3⟩
theorem eql_nil (w : World) (a : Option Addr) (n c : Nat) : (binOp .eql 23 (.slice a n c) (.slice none 0 0)).run Try.prog w = .ok (.bool a.isNone) w := run_eql_slice_nil w 23 33 a n c Try.underlying23
set_option maxRecDepth 100000 in
/-- A copy of points: new memory. -/
theorem clone (w : World) (v : Value) (l : List Pt) (hs : SrcN w 4 v l.length (ptC l)) (hn : l.length ≤ 1000000000000) :
    Calls Try.prog 26 #[v] w fun e w' => ∃ v', e = .returned v' ∧ w'.ownsRow w.heap.size 33 4 v' l.length (ptC l) ∧ Below w.heap.size w w' := by
  obtain ⟨i0, z0', hi, hz0, hz1, hz2, hz3⟩ := zparts33
  have HI := Lib.hid hi
  have HI0 := Lib.hid hz0
  have HI1 := Lib.hid hz1
  have HI2 := Lib.hid hz2
  have HI3 := Lib.hid hz3
  clear hi hz0 hz1 hz2 hz3
  have HS := Lib.hid hs
  rcases hs.2 with ⟨rfl, h2⟩ | ⟨ad, c, rfl, _⟩
  · have h3 : l = [] := List.eq_nil_of_length_eq_zero h2
    have H3 := Lib.hid h3
    clear h2 h3 hs hn
    have he := fun w' => eql_nil w' none 0 0
    go_enter Try.func26, Try.ntmps26
    go_wp2_with fail
    go_ret
    refine ⟨_, rfl, ?_, Below.refl _ _⟩
    rw [H3.out]
    exact World.ownsRow_nil _ _ _ _
  · obtain ⟨n, hN⟩ : ∃ n, l.length = n := ⟨_, rfl⟩
    rw [hN] at hn HS ⊢
    have HN := Lib.hid hN
    clear hs hN
    have hmade := World.ownsRow_made (w := w) (base := w.heap.size) (e := 33) (size := 4) #[] 0 (Nat.le_refl _) (by unfold maxLen; omega) rfl
    have HM := Lib.hid hmade
    have HSL := Lib.hid (HS.out.later ((Below.refl _ _).alloc (Nat.le_refl _) (.cells #[] 33)))
    clear hmade
    have he := fun w' => eql_nil w' (some ad) n c
    go_enter Try.func26, Try.ntmps26
    go_wp2_with (at_builtin; go_must (refine wpList_append_srcN rfl _ _ 23 rfl w.heap.size 33 i0 z0' 4 40 Try.underlying23 HI.out HI0.out HI1.out HI2.out HI3.out (by omega) (.slice (some ⟨w.heap.size, 0, none⟩) 0 0) 0 [] rfl HM.out (.slice (some ad) n c) n (ptC l) rfl HSL.out (by unfold maxLen; omega) (by omega) (by simp) ?_); intro v3 w3 hr3 hg3 hat3)
    simp only [Nat.zero_add, List.nil_append] at hr3
    have HR3 := Lib.hid hr3
    have HB3 := Lib.hid (show Below w.heap.size w w3 from ((Below.refl w.heap.size w).alloc (Nat.le_refl _) _).grown hg3 (by simp) (fun b hb => by simp [Value.ownBlock] at hb; omega))
    clear hr3 hg3 hat3
    go_wp2_with fail
    go_ret
    exact ⟨_, rfl, HR3.out, HB3.out⟩
end Go.Proofs.Ytfhdaihladgchaa
