/- Two rows of points are compared; ranges side by side. No condition. -/
import Derived.Test.YtfhdaihladgchaaP
namespace Go.Proofs.Ytfhdaihladgchaa
open Go.RowKit Go.Deep Go.WideShapes Go.ChangeShapes
theorem row_form {w : World} {base n : Nat} {v : Value} {xs : List Value} (h : w.ownsRow base 33 4 v n xs) : ∃ a c, v = .slice a n c := by
  rcases h.2 with ⟨h1, h2⟩ | ⟨g, c, cur, h1, _⟩
  · exact ⟨none, 0, by rw [h1, h2]⟩
  · exact ⟨_, c, h1⟩
theorem row_cells {w : World} {base n c : Nat} {a : Option Addr} {l : List Pt} (h : w.ownsRow base 33 4 (.slice a n c) n (ptC l)) (hl : l.length = n) : ∀ k p, l[k]? = some p → ∃ g, a = some ⟨g, 0, none⟩ ∧ ∀ wr, Below w.heap.size w wr → wr.cell? ⟨g, k * 4, none⟩ = some (.int .i64 p.t) ∧ wr.cell? ⟨g, k * 4 + 1, none⟩ = some (.int .i64 p.k) ∧ wr.cell? ⟨g, k * 4 + 2, none⟩ = some (.int .u64 p.b) ∧ wr.cell? ⟨g, k * 4 + 3, none⟩ = some (.string p.s) := by
  intro k p hp
  have hk : k < l.length := (List.getElem?_eq_some_iff.1 hp).1
  rcases h.2 with ⟨_, h0⟩ | ⟨g, c', cur, hv, _⟩
  · omega
  · injection hv with e1 e2 e3
    subst e1
    refine ⟨g, rfl, fun wr hb => ?_⟩
    obtain ⟨q0, q1, q2, q3⟩ := ptC_at l k p hp
    have hg := (h.lt g rfl).2
    refine ⟨?_, ?_, ?_, ?_⟩
    · rw [hb.cell (p := ⟨g, k * 4, none⟩) hg, h.cellAt (k * 4) (by omega), q0]
    · rw [hb.cell (p := ⟨g, k * 4 + 1, none⟩) hg, h.cellAt (k * 4 + 1) (by omega), q1]
    · rw [hb.cell (p := ⟨g, k * 4 + 2, none⟩) hg, h.cellAt (k * 4 + 2) (by omega), q2]
    · rw [hb.cell (p := ⟨g, k * 4 + 3, none⟩) hg, h.cellAt (k * 4 + 3) (by omega), q3]
def InSame (w : World) (n : Nat) (i : Value) (wr : World) : Prop := ∃ k : Nat, k ≤ n ∧ i = .int .i64 k ∧ Below w.heap.size w wr
set_option maxRecDepth 100000 in
theorem samePoints (w : World) (base base' : Nat) (u v : Value) (l : List Pt) (hu : w.ownsRow base 33 4 u l.length (ptC l)) (hv : w.ownsRow base' 33 4 v l.length (ptC l)) (hn : l.length ≤ 1000000000000) :
    Calls Try.prog 12 #[u, v] w fun e w' => e = .returned (.bool true) ∧ Below w.heap.size w w' := by
  obtain ⟨n, hN⟩ : ∃ n, l.length = n := ⟨_, rfl⟩
  rw [hN] at hu hv hn
  obtain ⟨a, c, rfl⟩ := row_form hu
  obtain ⟨a', c', rfl⟩ := row_form hv
  have HU := Lib.hid (row_cells hu hN)
  have HV := Lib.hid (row_cells hv hN)
  have HN := Lib.hid hN
  clear hu hv hN
  go_enter Try.func12, Try.ntmps12
  go_wp2_with fail
  go_loopw [13] (fun i wr => InSame w n i wr) (fun i _ => n - (intOf i).toNat)
  case atStart => exact ⟨0, Nat.zero_le _, rfl, Below.refl _ _⟩
  case round =>
    obtain ⟨k, hkn, rfl, hb⟩ := hrel
    have HB := Lib.hid hb
    clear hb
    by_cases hlt : k < n
    · obtain ⟨p, hp⟩ : ∃ p, l[k]? = some p := ⟨_, List.getElem?_eq_getElem (by rw [HN.out]; exact hlt)⟩
      obtain ⟨g, rfl, hc⟩ := HU.out k p hp
      obtain ⟨g', rfl, hc'⟩ := HV.out k p hp
      obtain ⟨q0, q1, q2, q3⟩ := hc wr HB.out
      obtain ⟨r0, r1, r2, r3⟩ := hc' wr HB.out
      clear hc hc' hp
      go_wp2_with fail
      go_quiet (fail)
      go_wp2_with fail
      go_roundw
      case rel => exact ⟨k + 1, by omega, by go_num, below_drewN HB.out _⟩
      case measure => simp [intOf]; omega
    · go_wp2_with fail
      go_ret
      exact ⟨rfl, HB.out⟩
theorem putL_len (l : List Pt) (p : Pt) : (putL l p).length = l.length + if thereB l p.t then 0 else 1 := by
  unfold putL
  have := loI_le l p.t
  split
  · simp
  · simp; omega
theorem putN_len (l : List Pt) (size most : Int) (p : Pt) : (putN l size most p).length = l.length + putD l size most p := by
  unfold putN putD
  split
  · exact putL_len l p
  · rfl
theorem putL_mem {l : List Pt} {p q : Pt} (h : q ∈ putL l p) : q ∈ l ∨ q = p := by
  unfold putL at h
  split at h
  · exact List.mem_or_eq_of_mem_set h
  · rcases List.mem_append.1 h with h | h
    · exact .inl (List.mem_of_mem_take h)
    · rcases List.mem_cons.1 h with h | h
      · exact .inr h
      · exact .inl (List.mem_of_mem_drop h)
theorem putN_mem {l : List Pt} {size most : Int} {p q : Pt} (h : q ∈ putN l size most p) : q ∈ l ∨ (q = p ∧ putE l size most p = 0) := by
  unfold putN at h
  split at h
  · next h0 => exact (putL_mem h).imp_right fun e => ⟨e, h0⟩
  · exact .inl h
theorem putD_bound {l : List Pt} {size : Nat} {most : Int} {p : Pt} (h : (size : Int) ≤ most) : ((size + putD l size most p : Nat) : Int) ≤ most := by
  unfold putD
  by_cases h0 : putE l size most p = 0
  · rw [if_pos h0]
    by_cases h1 : thereB l p.t = true
    · rw [if_pos h1]; exact h
    · rw [if_neg h1]
      unfold putE at h0
      by_cases h2 : formedB p.k p.b p.s = false
      · rw [if_pos h2] at h0; cases h0
      · rw [if_neg h2] at h0
        by_cases h3 : otherK l p.k = true
        · rw [if_pos h3] at h0; cases h0
        · rw [if_neg h3, if_neg h1] at h0
          by_cases h4 : (size : Int) ≥ most
          · rw [if_pos h4] at h0; cases h0
          · omega
  · rw [if_neg h0]; exact h
theorem lo_succ {l : List Pt} (t : Int) : loI l (t + 1) = hiI l t := by
  unfold loI hiI
  congr 2
  funext p
  rw [decide_eq_decide]
  omega
theorem lo_first {l : List Pt} {t : Int} (h : ∀ q ∈ l, t ≤ q.t) : loI l t = 0 := by
  unfold loI
  cases l with
  | nil => rfl
  | cons x r =>
    have := h x (by simp)
    have : ¬ x.t < t := by omega
    simp [this]
theorem takeWhile_whole {α : Type} (q : α → Bool) : ∀ l : List α, (∀ x ∈ l, q x = true) → l.takeWhile q = l
  | [], _ => rfl
  | x :: r, h => by
    rw [List.takeWhile_cons, h x (by simp)]
    simp only [if_true]
    rw [takeWhile_whole q r fun y hy => h y (by simp [hy])]
theorem hi_last {l : List Pt} {t : Int} (h : ∀ q ∈ l, q.t ≤ t) : hiI l t = l.length := by
  unfold hiI
  rw [takeWhile_whole _ _ fun x hx => decide_eq_true (h x hx)]
theorem takeWhile_le {α : Type} (q q' : α → Bool) : ∀ l : List α, (∀ x ∈ l, q x = true → q' x = true) → (l.takeWhile q).length ≤ (l.takeWhile q').length
  | [], _ => Nat.le_refl _
  | x :: r, h => by
    rw [List.takeWhile_cons, List.takeWhile_cons]
    cases hq : q x with
    | false => simp
    | true =>
      rw [h x (by simp) hq]
      simp only [if_true, List.length_cons]
      have := takeWhile_le q q' r fun y hy => h y (by simp [hy])
      omega
theorem lo_le_hi (l : List Pt) {a b : Int} (h : a ≤ b) : loI l a ≤ hiI l b := takeWhile_le _ _ l fun x _ hx => by
  have := of_decide_eq_true hx
  exact decide_eq_true (by omega)
/-- A range behind a beginning. -/
theorem rng_next (l : List Pt) {a b : Int} (h : a ≤ b) : l.take (loI l a) ++ rng l a b = l.take (hiI l b) := by
  have h1 := lo_le_hi l h
  have h2 : endI l a b = hiI l b := Nat.max_eq_right h1
  unfold rng
  rw [h2, ← List.drop_take]
  have h3 : l.take (loI l a) = (l.take (hiI l b)).take (loI l a) := by rw [List.take_take, Nat.min_eq_left h1]
  rw [h3, List.take_append_drop]
theorem row_src {w : World} {base : Nat} {v : Value} {l : List Pt} (h : w.ownsRow base 33 4 v l.length (ptC l)) : SrcN w 4 v l.length (ptC l) := by
  refine ⟨ptC_len l, ?_⟩
  rcases h.2 with ⟨h1, h2⟩ | ⟨g, c, cur, h1, _⟩
  · exact .inl ⟨h1, h2⟩
  · refine .inr ⟨_, c, h1, fun j u hj => ?_, ptC_one l⟩
    subst h1
    rw [addr_lit, Nat.zero_add, h.cellAt j (by have := (List.getElem?_eq_some_iff.1 hj).1; rw [ptC_len] at this; exact this)]
    exact hj
end Go.Proofs.Ytfhdaihladgchaa
