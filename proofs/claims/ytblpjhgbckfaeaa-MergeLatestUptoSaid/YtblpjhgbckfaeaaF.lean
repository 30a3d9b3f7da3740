/- The order of the keys: cmp.Compare at strings, cmp.Or, the closure of Columns. No condition. -/
import Derived.Test.YtblpjhgbckfaeaaE
import Derived.Deep.RegionHeld3
import Derived.Sort.Grow
import Derived.Sort.Walk0
import Derived.WalkLawsBesides
import Derived.BigQuiet
import Derived.Deep.DrawnRows
namespace Go.Proofs.Ytblpjhgbckfaeaa
section
open Go.RowKit Go.WideMaps Go.Sort
/-- The order of keys. -/
def kLt (s f s' f' : ByteArray) : Bool := Op.bytesLess s.toList s'.toList || (s.toList == s'.toList && Op.bytesLess f.toList f'.toList)
def kEq (s f s' f' : ByteArray) : Bool := s.toList == s'.toList && f.toList == f'.toList
theorem ba_ext {a b : ByteArray} (h : a.toList = b.toList) : a = b := by
  rw [ByteArray.toList_eq, ByteArray.toList_eq] at h
  exact ByteArray.ext (Array.toList_inj.1 h)
theorem kEq_iff {s f s' f' : ByteArray} : kEq s f s' f' = true ↔ s = s' ∧ f = f' := by
  unfold kEq
  rw [Bool.and_eq_true, beq_iff_eq, beq_iff_eq]
  exact ⟨fun h => ⟨ba_ext h.1, ba_ext h.2⟩, fun h => ⟨by rw [h.1], by rw [h.2]⟩⟩
theorem kLt_iff {s f s' f' : ByteArray} : kLt s f s' f' = true ↔ s.toList < s'.toList ∨ (s = s' ∧ f.toList < f'.toList) := by
  unfold kLt
  rw [Bool.or_eq_true, Bool.and_eq_true, beq_iff_eq, bytesLess_eq, bytesLess_eq, decide_eq_true_eq, decide_eq_true_eq]
  constructor
  · rintro (h | ⟨h, h'⟩)
    · exact .inl h
    · exact .inr ⟨ba_ext h, h'⟩
  · rintro (h | ⟨rfl, h'⟩)
    · exact .inl h
    · exact .inr ⟨rfl, h'⟩
theorem kLt_irrefl (s f : ByteArray) : kLt s f s f = false := by
  cases h : kLt s f s f with
  | false => rfl
  | true =>
    rcases kLt_iff.1 h with h | ⟨_, h⟩
    · exact absurd h (List.lt_irrefl _)
    · exact absurd h (List.lt_irrefl _)
theorem kLt_trans {s f s' f' s2 f2 : ByteArray} (h : kLt s f s' f' = true) (h' : kLt s' f' s2 f2 = true) : kLt s f s2 f2 = true := by
  rw [kLt_iff] at *
  rcases h with h | ⟨rfl, h⟩
  · rcases h' with h' | ⟨rfl, _⟩
    · exact .inl (List.lt_trans h h')
    · exact .inl h
  · rcases h' with h' | ⟨rfl, h'⟩
    · exact .inl h'
    · exact .inr ⟨rfl, List.lt_trans h h'⟩
theorem lt_tri (a b : List UInt8) (h : ¬ a < b) (h' : ¬ b < a) : a = b := List.le_antisymm (List.not_lt.1 h') (List.not_lt.1 h)
theorem kLt_tri {s f s' f' : ByteArray} (h : kLt s f s' f' = false) (h' : kEq s f s' f' = false) : kLt s' f' s f = true := by
  rw [kLt_iff]
  have h1 : ¬ (s.toList < s'.toList ∨ (s = s' ∧ f.toList < f'.toList)) := fun e => by rw [kLt_iff.2 e] at h; cases h
  by_cases h2 : s'.toList < s.toList
  · exact .inl h2
  · have h3 := ba_ext (lt_tri _ _ (fun e => h1 (.inl e)) h2)
    subst h3
    refine .inr ⟨rfl, ?_⟩
    rcases Classical.em (f'.toList < f.toList) with h4 | h4
    · exact h4
    · have h5 := ba_ext (lt_tri _ _ (fun e => h1 (.inr ⟨rfl, e⟩)) h4)
      rw [kEq_iff.2 ⟨rfl, h5⟩] at h'
      cases h'
end
open Go.RowKit Go.Sort
theorem nanS (s : ByteArray) (w : World) : Calls Try.prog 22 #[.string s] w fun e w' => e = .returned (.bool false) ∧ w = w' := by
  go_enter Try.func22, Try.ntmps22
  go_wp2_with fail
  go_ret
  exact ⟨rfl, rfl⟩
def cmpS (a b : ByteArray) : Int := if Op.bytesLess a.toList b.toList then -1 else if Op.bytesLess b.toList a.toList then 1 else 0
theorem compareS (a b : ByteArray) (w : World) : Calls Try.prog 15 #[.string a, .string b] w fun e w' => e = .returned (.int .i64 (cmpS a b)) ∧ w = w' := by
  cases h1 : Op.bytesLess a.toList b.toList with
  | true =>
    have H : Hid (cmpS a b = -1) := Lib.hid (by unfold cmpS; rw [h1]; rfl)
    go_enter Try.func15, Try.ntmps15
    go_wp2_with fail
    refine (nanS a _).mono ?_
    rintro e w' ⟨rfl, rfl⟩
    go_wp2_with fail
    refine (nanS b _).mono ?_
    rintro e w' ⟨rfl, rfl⟩
    go_wp2_with fail
    go_ret
    exact ⟨by rw [H.out]; rfl, rfl⟩
  | false =>
    cases h2 : Op.bytesLess b.toList a.toList with
    | true =>
      have H : Hid (cmpS a b = 1) := Lib.hid (by unfold cmpS; rw [h1, h2]; rfl)
      have h3 : (a.toList == b.toList) = false := by
        rw [beq_eq_false_iff_ne]
        intro e
        rw [e, bytesLess_eq, decide_eq_true_eq] at h2
        exact List.lt_irrefl _ h2
      go_enter Try.func15, Try.ntmps15
      go_wp2_with fail
      refine (nanS a _).mono ?_
      rintro e w' ⟨rfl, rfl⟩
      go_wp2_with fail
      refine (nanS b _).mono ?_
      rintro e w' ⟨rfl, rfl⟩
      go_wp2_with fail
      go_ret
      exact ⟨by rw [H.out]; rfl, rfl⟩
    | false =>
      have H : Hid (cmpS a b = 0) := Lib.hid (by unfold cmpS; rw [h1, h2]; rfl)
      have h3 : (a.toList == b.toList) = true := by
        rw [beq_iff_eq]
        rw [bytesLess_eq, decide_eq_false_iff_not] at h1 h2
        exact lt_tri _ _ h1 h2
      go_enter Try.func15, Try.ntmps15
      go_wp2_with fail
      refine (nanS a _).mono ?_
      rintro e w' ⟨rfl, rfl⟩
      go_wp2_with fail
      refine (nanS b _).mono ?_
      rintro e w' ⟨rfl, rfl⟩
      go_wp2_with fail
      go_ret
      exact ⟨by rw [H.out]; rfl, rfl⟩
def orI (x y : Int) : Int := if x ≠ 0 then x else y
def InOr (x y : Int) (w : World) (i : Value) (wr : World) : Prop := ∃ k : Nat, k ≤ 2 ∧ i = .int .i64 k ∧ w = wr ∧ (1 ≤ k → x = 0) ∧ (2 ≤ k → y = 0)
set_option maxRecDepth 100000 in
theorem orC (x y : Int) (g : Nat) (w : World) (h0 : w.cell? ⟨g, 0, none⟩ = some (.int .i64 x)) (h1 : w.cell? ⟨g, 1, none⟩ = some (.int .i64 y)) :
    Calls Try.prog 14 #[.slice (some ⟨g, 0, none⟩) 2 2] w fun e w' => e = .returned (.int .i64 (orI x y)) ∧ w = w' := by
  go_enter Try.func14, Try.ntmps14
  go_wp2_with fail
  go_loopw [8] (fun i wr => InOr x y w i wr) (fun i _ => 2 - (intOf i).toNat)
  case atStart => exact ⟨0, by omega, rfl, rfl, fun h => by omega, fun h => by omega⟩
  case round =>
    obtain ⟨k, hk, rfl, rfl, hx, hy⟩ := hrel
    have HX := Lib.hid hx
    have HY := Lib.hid hy
    clear hx hy
    match k, hk with
    | 0, _ =>
      cases hx : (x != 0) with
      | true =>
        have H := Lib.hid (show orI x y = x by unfold orI; rw [if_pos (by simpa using hx)])
        go_wp2_with fail
        go_ret
        exact ⟨by rw [H.out]; rfl, rfl⟩
      | false =>
        have hx0 : x = 0 := by simpa using hx
        have HX0 := Lib.hid hx0
        clear hx0
        go_wp2_with fail
        go_roundw
        case rel => exact ⟨1, by omega, rfl, rfl, fun _ => HX0.out, fun h => by omega⟩
        case measure => simp [intOf]
    | 1, _ =>
      cases hy : (y != 0) with
      | true =>
        have H := Lib.hid (show orI x y = y by unfold orI; rw [if_neg (by rw [HX.out (by omega)]; simp)])
        go_wp2_with fail
        go_ret
        exact ⟨by rw [H.out]; rfl, rfl⟩
      | false =>
        have hy0 : y = 0 := by simpa using hy
        have HY0 := Lib.hid hy0
        clear hy0
        go_wp2_with fail
        go_roundw
        case rel => exact ⟨2, by omega, rfl, rfl, fun _ => HX.out (by omega), fun _ => HY0.out⟩
        case measure => simp [intOf]
    | 2, _ =>
      have H := Lib.hid (show orI x y = 0 by unfold orI; rw [HX.out (by omega), HY.out (by omega)]; rfl)
      go_wp2_with fail
      go_ret
      exact ⟨by rw [H.out]; rfl, rfl⟩
theorem two_new (W : World) (x y : Value) (t : TypeId) : (W.alloc (.cells #[x, y] t)).drew.cell? ⟨W.heap.size, 0, none⟩ = some x ∧ (W.alloc (.cells #[x, y] t)).drew.cell? ⟨W.heap.size, 1, none⟩ = some y := by
  have h : (W.alloc (.cells #[x, y] t)).drew.heap[W.heap.size]? = some (.cells #[x, y] t (0, 0)) := heap_alloc_new W _
  exact ⟨by simp only [World.cell?, h]; rfl, by simp only [World.cell?, h]; rfl⟩
/-- What the closure says of two keys. -/
def cmpK (x y : ByteArray × ByteArray) : Int := orI (cmpS x.1 y.1) (cmpS x.2 y.2)
def encP (x : ByteArray × ByteArray) : List Value := [.string x.1, .string x.2]
set_option maxRecDepth 100000 in
theorem closure13 (x y : ByteArray × ByteArray) (W : World) : Calls Try.prog 13 #[.agg #[.string x.1, .string x.2], .agg #[.string y.1, .string y.2]] W fun e w' => e = .returned (.int .i64 (cmpK x y)) ∧ ∃ q os', w' = grow (W.drewN q) os' := by
  obtain ⟨a, b⟩ := x
  obtain ⟨c, d⟩ := y
  have hA : (W.alloc (.cells #[.string a, .string b] 47)).heap[W.heap.size]? = some (.cells #[.string a, .string b] 47 (0, 0)) := heap_alloc_new W _
  obtain ⟨W1, hW1⟩ : ∃ W1, W.alloc (.cells #[.string a, .string b] 47) = W1 := ⟨_, rfl⟩
  rw [hW1] at hA
  have hs1 : W1.heap.size = W.heap.size + 1 := by rw [← hW1]; simp
  have hB : (W1.alloc (.cells #[.string c, .string d] 47)).heap[W1.heap.size]? = some (.cells #[.string c, .string d] 47 (0, 0)) := heap_alloc_new W1 _
  have hA2 : (W1.alloc (.cells #[.string c, .string d] 47)).heap[W.heap.size]? = some (.cells #[.string a, .string b] 47 (0, 0)) := (heap_alloc_old W1 _ (by omega)).trans hA
  obtain ⟨W2, hW2⟩ : ∃ W2, W1.alloc (.cells #[.string c, .string d] 47) = W2 := ⟨_, rfl⟩
  rw [hW2] at hB hA2
  have hs2 : W2.heap.size = W1.heap.size + 1 := by rw [← hW2]; simp
  have a0 : W2.cell? ⟨W.heap.size, 0, none⟩ = some (.string a) := by simp [World.cell?, hA2]
  have a1 : W2.cell? ⟨W.heap.size, 1, none⟩ = some (.string b) := by simp [World.cell?, hA2]
  have b0 : W2.cell? ⟨W1.heap.size, 0, none⟩ = some (.string c) := by simp [World.cell?, hB]
  have b1 : W2.cell? ⟨W1.heap.size, 1, none⟩ = some (.string d) := by simp [World.cell?, hB]
  have HG : Hid (∀ q o, ∃ q' os', (W2.drewN q).alloc o = grow (W.drewN q') os') := Lib.hid (fun q o => ⟨q, _, by rw [← hW2, ← hW1, alloc_eq_grow, alloc_eq_grow, alloc_eq_grow]; show grow (grow (grow (W.drewN q) _) _) _ = _; rw [grow_grow, grow_grow]⟩)
  clear hA hB hA2 hs1 hs2
  go_enter Try.func13, Try.ntmps13
  go_wp2_with fail
  clear hW1 hW2
  go_region_held3 (fun w' => w'.cell? ⟨W.heap.size, 0, none⟩ = some (.string a) ∧ w'.cell? ⟨W.heap.size, 1, none⟩ = some (.string b) ∧ w'.cell? ⟨W1.heap.size, 0, none⟩ = some (.string c) ∧ w'.cell? ⟨W1.heap.size, 1, none⟩ = some (.string d)) (go_keep)
    (first
      | (go_at_call 15; refine (compareS _ _ _).mono ?_; rintro e w' ⟨rfl, rfl⟩)
      | (go_at_call 14; refine (orC (cmpS a c) (cmpS b d) _ _ (two_new _ _ _ _).1 (two_new _ _ _ _).2).mono ?_; rintro e w' ⟨rfl, rfl⟩))
  all_goals
    go_wp2_with fail
    go_ret
    exact ⟨rfl, HG.out 1 (.cells #[.int .i64 (cmpS a c), .int .i64 (cmpS b d)] 3)⟩
/-- 'cmp(a, b) < 0' is the order of the keys. -/
theorem cmpS_lt (a b : ByteArray) : (cmpS a b < 0) ↔ a.toList < b.toList := by
  unfold cmpS
  rw [bytesLess_eq, bytesLess_eq]
  by_cases h : a.toList < b.toList
  · simp [h]
  · by_cases h2 : b.toList < a.toList <;> simp [h, h2]
theorem cmpS_zero (a b : ByteArray) : (cmpS a b = 0) ↔ a = b := by
  unfold cmpS
  rw [bytesLess_eq, bytesLess_eq]
  by_cases h : a.toList < b.toList
  · simp [h]
    intro e; rw [e] at h; exact List.lt_irrefl _ h
  · by_cases h2 : b.toList < a.toList
    · simp [h, h2]
      intro e; rw [e] at h2; exact List.lt_irrefl _ h2
    · simp [h, h2]
      exact ba_ext (lt_tri _ _ h h2)
theorem cmpK_lt (x y : ByteArray × ByteArray) : decide (cmpK x y < 0) = kLt x.1 x.2 y.1 y.2 := by
  rw [Bool.eq_iff_iff, decide_eq_true_eq, kLt_iff]
  unfold cmpK orI
  by_cases h : cmpS x.1 y.1 = 0
  · have h' := (cmpS_zero _ _).1 h
    rw [if_neg (by simp [h]), cmpS_lt, h']
    constructor
    · intro h2; exact .inr ⟨rfl, h2⟩
    · rintro (h2 | ⟨_, h2⟩)
      · exact absurd h2 (List.lt_irrefl _)
      · exact h2
  · rw [if_pos h, cmpS_lt]
    constructor
    · intro h2; exact .inl h2
    · rintro (h2 | ⟨h2, _⟩)
      · exact h2
      · exact absurd ((cmpS_zero _ _).2 h2) h
end Go.Proofs.Ytblpjhgbckfaeaa
