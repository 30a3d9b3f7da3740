/- What Merge answers: the table in order is the merged one; rows of points and of columns in memory. No condition. -/
import Derived.Test.YtblpjhgbckfaeaaL
import Derived.Test.YtblpjhgbckfaeaaM
namespace Go.Proofs.Ytblpjhgbckfaeaa
open Go.RowKit Go.WideMaps Go.Sort
theorem flat_at {α : Type} (g : α → List Value) (m : Nat) (hm : ∀ x, (g x).length = m) : ∀ (L : List α) (k i : Nat) (x : α), L[k]? = some x → i < m → (L.flatMap g)[k * m + i]? = (g x)[i]?
  | [], _, _, _, h, _ => by simp at h
  | y :: r, 0, i, x, h, hi => by
    have e : y = x := by simpa using h
    rw [List.flatMap_cons, List.getElem?_append_left (by rw [hm]; omega), Nat.zero_mul, Nat.zero_add, e]
  | y :: r, k + 1, i, x, h, hi => by
    have h' : r[k]? = some x := by simpa using h
    rw [List.flatMap_cons, List.getElem?_append_right (by rw [hm, Nat.succ_mul]; omega), hm, show (k + 1) * m + i - m = k * m + i by rw [Nat.succ_mul]; omega]
    exact flat_at g m hm r k i x h' hi
def ptV (p : Int × PV) : List Value := [.int .i64 p.1, .int .i64 p.2.kd, .int .u64 p.2.bits, .string p.2.text]
def ptC (P : List (Int × PV)) : List Value := P.flatMap ptV
def ccV (x : CC) : List Value := [.string x.se, .string x.fi, x.v]
def ccC (C : List CC) : List Value := C.flatMap ccV
theorem ptC_append (P Q : List (Int × PV)) : ptC (P ++ Q) = ptC P ++ ptC Q := List.flatMap_append
theorem ccC_append (P Q : List CC) : ccC (P ++ Q) = ccC P ++ ccC Q := List.flatMap_append
theorem row_pts {w : World} {base : Nat} {v : Value} {P : List (Int × PV)} (h : w.ownsRow base 33 4 v P.length (ptC P)) (hwf : ∀ p ∈ P, (Lit.int .i64 p.1).wf = true) : PtsIn w v P := by
  rcases h.2 with ⟨hv, h0⟩ | ⟨g, c, cur, hv, _⟩
  · refine ⟨none, 0, by rw [hv, h0], fun k p hp => ?_⟩
    rw [List.eq_nil_of_length_eq_zero h0] at hp
    simp at hp
  · subst hv
    refine ⟨_, c, rfl, fun k p hp => ⟨hwf p (List.mem_of_getElem? hp), g, 0, rfl, ?_⟩⟩
    have hk : k < P.length := by obtain ⟨hk, _⟩ := List.getElem?_eq_some_iff.1 hp; exact hk
    have key : ∀ i, i < 4 → w.cell? ⟨g, 0 + k * 4 + i, none⟩ = (ptV p)[i]? := fun i hi => by
      rw [Nat.zero_add, h.cellAt (k * 4 + i) (by omega)]
      exact flat_at ptV 4 (fun _ => rfl) P k i p hp hi
    exact ⟨key 0 (by omega), key 1 (by omega), key 2 (by omega), key 3 (by omega)⟩
theorem row_cols {w : World} {base : Nat} {v : Value} {C : List CC} (h : w.ownsRow base 28 3 v C.length (ccC C)) (hs : ∀ x ∈ C, x.se.size ≤ maxLen ∧ x.fi.size ≤ maxLen ∧ PtsIn w x.v x.pts) : ColsIn w v C := by
  rcases h.2 with ⟨hv, h0⟩ | ⟨g, c, cur, hv, _⟩
  · refine ⟨none, 0, by rw [hv, h0], fun k p hp => ?_⟩
    rw [List.eq_nil_of_length_eq_zero h0] at hp
    simp at hp
  · subst hv
    refine ⟨_, c, rfl, fun k p hp => ?_⟩
    obtain ⟨s1, s2, s3⟩ := hs p (List.mem_of_getElem? hp)
    refine ⟨s1, s2, s3, g, 0, rfl, ?_⟩
    have hk : k < C.length := by obtain ⟨hk, _⟩ := List.getElem?_eq_some_iff.1 hp; exact hk
    have key : ∀ i, i < 3 → w.cell? ⟨g, 0 + k * 3 + i, none⟩ = (ccV p)[i]? := fun i hi => by
      rw [Nat.zero_add, h.cellAt (k * 3 + i) (by omega)]
      exact flat_at ccV 3 (fun _ => rfl) C k i p hp hi
    exact ⟨key 0 (by omega), key 1 (by omega), key 2 (by omega)⟩
theorem inner_rising {w : World} {b n : Nat} {P : List (Int × PV)} (h : w.ownsMap Try.prog 2 valE b n (.map (P.map entP))) : P.Pairwise fun a b => a.1 < b.1 := by
  obtain ⟨es, c, _, F, _, hD⟩ := h
  have hr := Maps.fit_rising (Maps.int_keyed Try.underlying2) F
  injection hD with hD
  rw [← hD] at hr
  have hp := WideShapes.rising_pairwise _ hr
  rw [List.pairwise_map] at hp
  refine hp.imp ?_
  intro a b hab
  exact of_decide_eq_true hab
theorem lookP_mem {P : List (Int × PV)} (h : P.Pairwise fun a b => a.1 < b.1) (t : Int) (v : PV) : lookP P t = some v ↔ (t, v) ∈ P := by
  constructor
  · intro h1
    unfold lookP at h1
    cases hf : P.find? (fun p => p.1 == t) with
    | none => rw [hf] at h1; cases h1
    | some p =>
      rw [hf] at h1
      have h2 := List.find?_some hf
      have h3 := List.mem_of_find?_eq_some hf
      simp at h1 h2
      rw [← h1, ← h2]; exact h3
  · intro h1
    unfold lookP
    cases hf : P.find? (fun p => p.1 == t) with
    | none =>
      have := List.find?_eq_none.1 hf (t, v) h1
      simp at this
    | some p =>
      have h2 := List.find?_some hf
      have h3 := List.mem_of_find?_eq_some hf
      simp at h2
      have h4 : (t, p.2) ∈ P := by rw [← h2]; exact h3
      simp only [Option.map_some]
      rw [time_one h h1 h4]
def ptsT (L : List TE) (k : Ky) : List (Int × PV) := match lookT L k.1 k.2 with | some x => x.pts | none => []
def colT (L : List TE) (k : Ky) : Col Ky PV := ⟨k, ptsT L k⟩
def kLtP (a b : Ky) : Prop := kLt a.1 a.2 b.1 b.2 = true
theorem kLtP_irr (a : Ky) : ¬ kLtP a a := by unfold kLtP; rw [kLt_irrefl]; simp
theorem kLtP_tr (a b c : Ky) (h : kLtP a b) (h' : kLtP b c) : kLtP a c := kLt_trans h h'
theorem look_key {L : List TE} {ks : List Ky} (hK : KeysOf L ks) {k : Ky} (h : k ∈ ks) : ∃ x, lookT L k.1 k.2 = some x ∧ x ∈ L ∧ k = (x.se, x.fi) := by
  obtain ⟨c, hc, rfl⟩ := (hK.mem k).1 h
  cases hl : lookT L c.se c.fi with
  | none => exact absurd ⟨rfl, rfl⟩ (lookT_no hl c hc)
  | some x =>
    obtain ⟨h1, h2, h3⟩ := lookT_mem hl
    exact ⟨x, rfl, h1, by rw [h2, h3]⟩
theorem tab_merged {w wr : World} {m n : Nat} {L : List TE} {T : List Tp} {ks : List Ky} (h : TabL w wr m L T n) (hF : FullT L) (hK : KeysOf L ks) (hS : SortedKs ks) : Merged kLtP T (ks.map (colT L)) where
  rises := {
    keys := by rw [List.pairwise_map]; exact hS
    times := fun c hc => by
      obtain ⟨k, hk, rfl⟩ := List.mem_map.1 hc
      obtain ⟨x, hx, hxL, _⟩ := look_key hK hk
      unfold colT ptsT
      rw [hx]
      exact inner_rising (h.tab.inner x hxL)
    full := fun c hc => by
      obtain ⟨k, hk, rfl⟩ := List.mem_map.1 hc
      obtain ⟨x, hx, hxL, _⟩ := look_key hK hk
      unfold colT ptsT
      rw [hx]
      exact hF x hxL }
  has := fun k t v => by
    rw [h.ofT k.1 k.2 t]
    constructor
    · rintro ⟨c, hc, hck, hv⟩
      obtain ⟨k', hk', rfl⟩ := List.mem_map.1 hc
      have e : k' = k := hck
      subst e
      obtain ⟨x, hx, hxL, _⟩ := look_key hK hk'
      unfold colT ptsT at hv
      rw [hx] at hv ⊢
      exact (lookP_mem (inner_rising (h.tab.inner x hxL)) t v).2 hv
    · intro hv
      cases hx : lookT L k.1 k.2 with
      | none => rw [hx] at hv; cases hv
      | some x =>
        rw [hx] at hv
        obtain ⟨hxL, e1, e2⟩ := lookT_mem hx
        refine ⟨colT L k, List.mem_map.2 ⟨k, (hK.mem k).2 ⟨x, hxL, by rw [e1, e2]⟩, rfl⟩, rfl, ?_⟩
        unfold colT ptsT
        rw [hx]
        exact (lookP_mem (inner_rising (h.tab.inner x hxL)) t v).1 hv
def colOf (x : CC) : Col Ky PV := ⟨(x.se, x.fi), x.pts⟩
theorem trC_flat (C : List CC) : trC C = flat (C.map colOf) := by
  unfold trC flat
  rw [List.flatMap_map]
  rfl
theorem flat_le {T : List Tp} {C : List (Col Ky PV)} (h : Merged kLtP T C) : (flat C).length ≤ T.length := by
  have h1 := nodup_len ((flat C).map fun x => (x.k, x.t)) (T.map fun x => (x.k, x.t)) ?_ ?_
  · simpa using h1
  · unfold List.Nodup
    rw [List.pairwise_map]
    refine (flat_apart kLtP_irr h.rises).imp fun hab e => hab ?_
    injection e with e1 e2
    exact ⟨e1, e2⟩
  · intro p hp
    obtain ⟨x, hx, rfl⟩ := List.mem_map.1 hp
    have := lastV_mem ((h.has x.k x.t x.v).1 (flat_mem.1 hx))
    exact List.mem_map.2 ⟨_, this, rfl⟩
theorem cols_le {C : List (Col Ky PV)} (h : ∀ c ∈ C, c.pts ≠ []) : C.length ≤ (flat C).length := by
  induction C with
  | nil => exact Nat.zero_le _
  | cons c C ih =>
    have h1 := ih fun d hd => h d (List.mem_cons_of_mem _ hd)
    have h2 : 0 < c.pts.length := List.length_pos_iff.2 (h c (List.mem_cons_self ..))
    unfold flat at h1 ⊢
    rw [List.flatMap_cons, List.length_append, List.length_map, List.length_cons]
    omega
theorem pts_le {C : List (Col Ky PV)} {c : Col Ky PV} (h : c ∈ C) : c.pts.length ≤ (flat C).length := by
  induction C with
  | nil => cases h
  | cons d C ih =>
    unfold flat at ih ⊢
    rw [List.flatMap_cons, List.length_append, List.length_map]
    rcases List.mem_cons.1 h with rfl | h
    · omega
    · have := ih h; omega
theorem lists_wf {w : World} {v : Value} {LS : List LL} (h : ListsIn w v LS) : ∀ x ∈ trL LS, (Lit.int .i64 x.t).wf = true := by
  intro x hx
  obtain ⟨a, c, rfl, h⟩ := h
  unfold trL at hx
  obtain ⟨l, hl, hx⟩ := List.mem_flatMap.1 hx
  obtain ⟨k, hk⟩ := List.mem_iff_getElem?.1 hl
  obtain ⟨⟨a2, c2, _, h2⟩, _⟩ := h k l hk
  unfold trC at hx
  obtain ⟨y, hy, hx⟩ := List.mem_flatMap.1 hx
  obtain ⟨k2, hk2⟩ := List.mem_iff_getElem?.1 hy
  obtain ⟨_, _, ⟨a3, c3, _, h3⟩, _⟩ := h2 k2 y hk2
  unfold trP at hx
  obtain ⟨p, hp, rfl⟩ := List.mem_map.1 hx
  obtain ⟨k3, hk3⟩ := List.mem_iff_getElem?.1 hp
  exact (h3 k3 p hk3).1
end Go.Proofs.Ytblpjhgbckfaeaa
