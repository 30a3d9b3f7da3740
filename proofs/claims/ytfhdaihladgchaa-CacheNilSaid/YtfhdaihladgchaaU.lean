/- The document's table in the heap; its size, its end. No condition. -/
import Derived.Test.YtfhdaihladgchaaT
namespace Go.Proofs.Ytfhdaihladgchaa
open Go.RowKit Go.WideMaps
/-- A column of the document's table. -/
structure RC where
  se : ByteArray
  fi : ByteArray
  v : Value
  l : List Pt
def rcC : List RC → List Value
  | [] => []
  | x :: r => .string x.se :: .string x.fi :: x.v :: rcC r
theorem rcC_len : ∀ l : List RC, (rcC l).length = l.length * 3
  | [] => rfl
  | x :: r => by simp [rcC, rcC_len r]; omega
theorem rcC_at : ∀ (l : List RC) (i : Nat) (p : RC), l[i]? = some p → (rcC l)[i * 3]? = some (.string p.se) ∧ (rcC l)[i * 3 + 1]? = some (.string p.fi) ∧ (rcC l)[i * 3 + 2]? = some p.v
  | [], i, p, h => by simp at h
  | x :: r, 0, p, h => by
    simp at h
    subst h
    exact ⟨rfl, rfl, rfl⟩
  | x :: r, i + 1, p, h => by
    have := rcC_at r i p (by simpa using h)
    have e1 : (i + 1) * 3 = i * 3 + 3 := by omega
    rw [e1]
    exact this
theorem rcC_append : ∀ A B : List RC, rcC (A ++ B) = rcC A ++ rcC B
  | [], _ => rfl
  | x :: r, B => by simp [rcC, rcC_append r B]
theorem rcC_take : ∀ (l : List RC) (k : Nat), (rcC l).take (k * 3) = rcC (l.take k)
  | [], k => by simp [rcC]
  | x :: r, 0 => by simp [rcC]
  | x :: r, k + 1 => by
    have e1 : (k + 1) * 3 = k * 3 + 1 + 1 + 1 := by omega
    rw [e1]
    simp only [rcC, List.take_succ_cons, rcC_take r k]
theorem rcC_drop : ∀ (l : List RC) (k : Nat), (rcC l).drop (k * 3) = rcC (l.drop k)
  | [], k => by simp [rcC]
  | x :: r, 0 => by simp [rcC]
  | x :: r, k + 1 => by
    have e1 : (k + 1) * 3 = k * 3 + 1 + 1 + 1 := by omega
    rw [e1]
    simp only [rcC, List.drop_succ_cons, rcC_drop r k]
structure RefAt (w : World) (T : Nat → Prop) (r : Nat) (R : List RC) (most : Int) : Prop where
  blk : ∃ v, w.heap[r]? = some (.cells #[v, .int .i64 most] 50 (0, 0)) ∧ w.ownsRow 0 55 3 v R.length (rcC R) ∧ ∀ g, v.ownBlock = some g → T g
  col : ∀ x ∈ R, w.ownsRow 0 33 4 x.v x.l.length (ptC x.l)
  here : T r
  mine : ∀ x ∈ R, ∀ g, x.v.ownBlock = some g → T g
section
variable {w w' : World} {T T' : Nat → Prop} {r : Nat} {R : List RC} {most : Int}
theorem RefAt.same2 (h : RefAt w T r R most) (hk : ∀ k, T k → k < w.heap.size → w'.heap[k]? = w.heap[k]?) : RefAt w' T r R most := by
  obtain ⟨v, h1, h2, h3⟩ := h.blk
  exact ⟨⟨v, (hk r h.here (heap_lt h1)).trans h1, ownsRow_same h2 fun g hg => hk g (h3 g hg) (h2.lt g hg).2, h3⟩, fun x hx => ownsRow_same (h.col x hx) fun g hg => hk g (h.mine x hx g hg) ((h.col x hx).lt g hg).2, h.here, h.mine⟩
theorem RefAt.later (h : RefAt w T r R most) (hb : Below w.heap.size w w') : RefAt w' T r R most := h.same2 fun k _ hk => hb.block k hk
theorem RefAt.grow (h : RefAt w T r R most) (hs : ∀ k, T k → T' k) : RefAt w T' r R most := by
  obtain ⟨v, h1, h2, h3⟩ := h.blk
  exact ⟨⟨v, h1, h2, fun g hg => hs g (h3 g hg)⟩, h.col, hs _ h.here, fun x hx g hg => hs g (h.mine x hx g hg)⟩
theorem RefAt.beside {S : Nat → Prop} (h : RefAt w T r R most) (ht : Turns S w w') (hd : ∀ k, T k → k < w.heap.size → ¬ S k) : RefAt w' T r R most :=
  h.same2 fun k hk hl => ht.block k hl (hd k hk hl)
end
theorem row55_form {w : World} {base n : Nat} {v : Value} {xs : List Value} (h : w.ownsRow base 55 3 v n xs) : ∃ a c, v = .slice a n c := by
  rcases h.2 with ⟨h1, h2⟩ | ⟨g, c, cur, h1, _⟩
  · exact ⟨none, 0, by rw [h1, h2]⟩
  · exact ⟨_, c, h1⟩
theorem row55_cells {w : World} {base n c : Nat} {a : Option Addr} {l : List RC} (h : w.ownsRow base 55 3 (.slice a n c) n (rcC l)) (hl : l.length = n) : ∀ k p, l[k]? = some p → ∃ g, a = some ⟨g, 0, none⟩ ∧ ∀ wr, Below w.heap.size w wr → wr.cell? ⟨g, k * 3, none⟩ = some (.string p.se) ∧ wr.cell? ⟨g, k * 3 + 1, none⟩ = some (.string p.fi) ∧ wr.cell? ⟨g, k * 3 + 2, none⟩ = some p.v := by
  intro k p hp
  have hk : k < l.length := (List.getElem?_eq_some_iff.1 hp).1
  rcases h.2 with ⟨_, h0⟩ | ⟨g, c', cur, hv, _⟩
  · omega
  · injection hv with e1 e2 e3
    subst e1
    refine ⟨g, rfl, fun wr hb => ?_⟩
    obtain ⟨q0, q1, q2⟩ := rcC_at l k p hp
    have hg := (h.lt g rfl).2
    refine ⟨?_, ?_, ?_⟩
    · rw [hb.cell (p := ⟨g, k * 3, none⟩) hg, h.cellAt (k * 3) (by omega), q0]
    · rw [hb.cell (p := ⟨g, k * 3 + 1, none⟩) hg, h.cellAt (k * 3 + 1) (by omega), q1]
    · rw [hb.cell (p := ⟨g, k * 3 + 2, none⟩) hg, h.cellAt (k * 3 + 2) (by omega), q2]
theorem refNew (n : Int) (w : World) :
    Calls Try.prog 15 #[.int .i64 n] w fun e w' => e = .returned (.pointer (some ⟨w.heap.size, 0, none⟩)) ∧ RefAt w' (fun k => k = w.heap.size) w.heap.size [] (max n 0) ∧ Below w.heap.size w w' ∧ w'.heap.size = w.heap.size + 1 := by
  have key : ∀ r : Int, r = max n 0 → RefAt (w.alloc (.cells #[.slice none 0 0, .int .i64 r] 50)) (fun k => k = w.heap.size) w.heap.size [] (max n 0) := by
    rintro r rfl
    exact ⟨⟨.slice none 0 0, heap_alloc_new w _, World.ownsRow_nil _ _ _ _, fun g hg => by cases hg⟩, (fun e he => nomatch he), rfl, (fun e he => nomatch he)⟩
  by_cases h0 : 0 ≤ n
  · go_enter Try.func15, Try.ntmps15
    go_wp2_with fail
    go_ret
    exact ⟨rfl, key _ (by omega), (Below.refl _ _).alloc (Nat.le_refl _) _, by simp⟩
  · go_enter Try.func15, Try.ntmps15
    go_wp2_with fail
    go_ret
    exact ⟨rfl, key _ (by omega), (Below.refl _ _).alloc (Nat.le_refl _) _, by simp⟩
theorem refClear (w : World) (T : Nat → Prop) (r : Nat) (R : List RC) (most : Int) (h : RefAt w T r R most) :
    Calls Try.prog 29 #[.pointer (some ⟨r, 0, none⟩)] w fun e w' => e = .returned (.tuple #[]) ∧ RefAt w' T r [] most ∧ Turns T w w' := by
  obtain ⟨v, h1, _, _⟩ := h.blk
  have c0 : w.cell? ⟨r, 0, none⟩ = some v := by simp [World.cell?, h1]
  have f0 : w.frozen? ⟨r, 0, none⟩ = false := by simp [World.frozen?, h1]
  have HH := Lib.hid h
  have H1 := Lib.hid h1
  clear h h1
  go_enter Try.func29, Try.ntmps29
  go_wp2_with fail
  go_end0
  refine ⟨rfl, ⟨⟨.slice none 0 0, ?_, World.ownsRow_nil _ _ _ _, fun g hg => by cases hg⟩, (fun e he => nomatch he), HH.out.here, (fun e he => nomatch he)⟩, (onlyD_set w r 0 _).turns HH.out.here⟩
  have := heap_setCell_same w r 0 _ 50 (.slice none 0 0) H1.out
  rw [this]; rfl
def rtot (R : List RC) : Nat := (R.map fun x => x.l.length).sum
theorem rtot_take (R : List RC) (k : Nat) (x : RC) (h : R[k]? = some x) : rtot (R.take (k + 1)) = rtot (R.take k) + x.l.length := by
  unfold rtot
  obtain ⟨hk, rfl⟩ := List.getElem?_eq_some_iff.1 h
  rw [List.take_succ_eq_append_getElem hk, List.map_append, List.sum_append_nat]
  simp only [List.map_cons, List.map_nil, List.sum_cons, List.sum_nil, Nat.add_zero]
theorem rtot_le (R : List RC) (k : Nat) : rtot (R.take k) ≤ rtot R := by
  have : rtot R = rtot (R.take k) + rtot (R.drop k) := by
    unfold rtot
    rw [← List.sum_append_nat, ← List.map_append, List.take_append_drop]
  omega
def InSize (w : World) (R : List RC) (n : Nat) (q i : Value) (wr : World) : Prop := ∃ k : Nat, k ≤ n ∧ i = .int .i64 k ∧ q = .int .i64 (rtot (R.take k)) ∧ w = wr
set_option maxRecDepth 100000 in
theorem refSize (w : World) (T : Nat → Prop) (r : Nat) (R : List RC) (most : Int) (h : RefAt w T r R most) (hn : rtot R ≤ 1000000000000) (hl : R.length ≤ 1000000000000) :
    Calls Try.prog 16 #[.pointer (some ⟨r, 0, none⟩)] w fun e w' => e = .returned (.int .i64 (rtot R)) ∧ w = w' := by
  obtain ⟨v, h1, h2, _⟩ := h.blk
  have c0 : w.cell? ⟨r, 0, none⟩ = some v := by simp [World.cell?, h1]
  obtain ⟨n, hN⟩ : ∃ n, R.length = n := ⟨_, rfl⟩
  rw [hN] at h2 hl
  obtain ⟨a, c, rfl⟩ := row55_form h2
  have HC := Lib.hid (row55_cells h2 hN)
  have HCOL := Lib.hid h.col
  have HN := Lib.hid hN
  have HT := Lib.hid hn
  clear h h1 h2 hN hn
  go_enter Try.func16, Try.ntmps16
  go_wp2_with fail
  go_loopw [3, 10] (fun q i wr => InSize w R n q i wr) (fun _ i _ => n - (intOf i).toNat)
  case atStart => exact ⟨0, Nat.zero_le _, rfl, rfl, rfl⟩
  case round =>
    obtain ⟨k, hkn, rfl, rfl, rfl⟩ := hrel
    by_cases hlt : k < n
    · obtain ⟨x, hx⟩ : ∃ x, R[k]? = some x := ⟨_, List.getElem?_eq_getElem (by rw [HN.out]; exact hlt)⟩
      obtain ⟨g, rfl, hc⟩ := HC.out k x hx
      obtain ⟨q0, q1, q2⟩ := hc w (Below.refl _ _)
      obtain ⟨xa, xc, hxv⟩ := row_form (HCOL.out x (List.mem_of_getElem? hx))
      have hr1 := rtot_take R k x hx
      have hr2 := rtot_le R (k + 1)
      obtain ⟨m, hm⟩ : ∃ m, x.l.length = m := ⟨_, rfl⟩
      obtain ⟨q, hq⟩ : ∃ q, rtot (R.take k) = q := ⟨_, rfl⟩
      rw [hm] at hxv hr1
      rw [hq] at hr1 ⊢
      rw [hxv] at q2
      have hb1 : q + m ≤ 1000000000000 := by have := HT.out; omega
      have HR1 := Lib.hid hr1
      clear hc hx hxv hm hr1 hr2 hq
      go_wp2_with fail
      go_roundw
      case rel => exact ⟨k + 1, by omega, by go_num, by rw [HR1.out]; go_num, rfl⟩
      case measure => simp [intOf]; omega
    · have hk : k = n := by omega
      subst hk
      go_wp2_with fail
      go_ret
      refine ⟨?_, rfl⟩
      rw [List.take_of_length_le (by rw [HN.out]; exact Nat.le_refl _)]
      rfl
end Go.Proofs.Ytfhdaihladgchaa
