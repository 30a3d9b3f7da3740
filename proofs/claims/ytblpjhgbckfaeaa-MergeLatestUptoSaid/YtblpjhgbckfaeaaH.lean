/- What a store leaves: of an inner map (a time, a value), of the outer one (a key, a new inner map). No condition. -/
import Derived.Test.YtblpjhgbckfaeaaG
namespace Go.Proofs.Ytblpjhgbckfaeaa
open Go.RowKit Go.WideMaps
def insP (x : Int × PV) : List (Int × PV) → List (Int × PV)
  | [] => [x]
  | y :: r => if (entP x).1.before (entP y).1 then x :: y :: r else y :: insP x r
theorem insP_ent (x : Int × PV) : ∀ P : List (Int × PV), (insP x P).map entP = DataW.insert (entP x) (P.map entP)
  | [] => rfl
  | y :: r => by
    simp only [insP, List.map_cons, DataW.insert]
    split
    · simp
    · rw [List.map_cons, insP_ent x r]
theorem insP_perm (x : Int × PV) : ∀ P : List (Int × PV), (insP x P).Perm (x :: P)
  | [] => .refl _
  | y :: r => by
    simp only [insP]
    split
    · exact .refl _
    · exact ((insP_perm x r).cons y).trans (.swap x y r)
def putP (P : List (Int × PV)) (t : Int) (v : PV) : List (Int × PV) := insP (t, v) (P.filter fun p => !(p.1 == t))
theorem putP_ent (P : List (Int × PV)) (t : Int) (v : PV) : (DataW.map (P.map entP)).put (.int .i64 t) v.d = .map ((putP P t v).map entP) := by
  unfold putP
  rw [insP_ent]
  show DataW.map (DataW.insert _ _) = _
  congr 2
  rw [List.filter_map]
  congr 1
  refine List.filter_congr fun p _ => ?_
  simp only [Function.comp, entP, Lit.sameKey]
  by_cases h : p.1 = t <;> simp [h]
theorem lookP_ins (x : Int × PV) : ∀ P : List (Int × PV), (∀ p ∈ P, p.1 ≠ x.1) → ∀ t, lookP (insP x P) t = if t = x.1 then some x.2 else lookP P t
  | [], _, t => by
    unfold lookP insP
    by_cases h : x.1 = t
    · rw [if_pos h.symm]; simp [h]
    · rw [if_neg (fun e => h e.symm)]; simp [h]
  | y :: r, hP, t => by
    have hy := hP y (List.mem_cons_self ..)
    unfold insP
    split
    · unfold lookP
      by_cases h : x.1 = t
      · rw [if_pos h.symm]; simp [h]
      · rw [if_neg (fun e => h e.symm)]; simp [h]
    · have ih := lookP_ins x r (fun p hp => hP p (List.mem_cons_of_mem _ hp)) t
      unfold lookP at ih ⊢
      rw [List.find?_cons, List.find?_cons]
      by_cases h : y.1 = t
      · have hb : (y.1 == t) = true := by simp [h]
        rw [hb]
        rw [if_neg (fun e => hy (h.trans e))]
      · have hb : (y.1 == t) = false := by simp [h]
        rw [hb]
        exact ih
theorem lookP_filter (P : List (Int × PV)) (t t' : Int) (h : t' ≠ t) : lookP (P.filter fun p => !(p.1 == t)) t' = lookP P t' := by
  unfold lookP
  induction P with
  | nil => rfl
  | cons y r ih =>
    by_cases hy : y.1 = t
    · rw [List.filter_cons_of_neg (by simp [hy]), ih, List.find?_cons]
      have hb : (y.1 == t') = false := by rw [hy]; simp; exact fun e => h e.symm
      rw [hb]
    · rw [List.filter_cons_of_pos (by simpa using hy), List.find?_cons, List.find?_cons]
      cases y.1 == t' with
      | true => rfl
      | false => exact ih
theorem lookP_put (P : List (Int × PV)) (t : Int) (v : PV) (t' : Int) : lookP (putP P t v) t' = if t' = t then some v else lookP P t' := by
  unfold putP
  rw [lookP_ins (t, v) _ fun p hp => by have := (List.mem_filter.1 hp).2; simpa using this]
  by_cases h : t' = t
  · rw [if_pos h, if_pos h]
  · rw [if_neg h, if_neg h, lookP_filter P t t' h]
def insT (x : TE) : List TE → List TE
  | [] => [x]
  | y :: r => if (entT x).1.before (entT y).1 then x :: y :: r else y :: insT x r
theorem insT_ent (x : TE) : ∀ L : List TE, (insT x L).map entT = DataW.insert (entT x) (L.map entT)
  | [] => rfl
  | y :: r => by
    simp only [insT, List.map_cons, DataW.insert]
    split
    · simp
    · rw [List.map_cons, insT_ent x r]
theorem insT_perm (x : TE) : ∀ L : List TE, (insT x L).Perm (x :: L)
  | [] => .refl _
  | y :: r => by
    simp only [insT]
    split
    · exact .refl _
    · exact ((insT_perm x r).cons y).trans (.swap x y r)
theorem insT_mem {x y : TE} {L : List TE} : y ∈ insT x L ↔ y = x ∨ y ∈ L := by
  rw [(insT_perm x L).mem_iff, List.mem_cons]
theorem lookT_mem {L : List TE} {s f : ByteArray} {e : TE} (h : lookT L s f = some e) : e ∈ L ∧ e.se = s ∧ e.fi = f := by
  refine ⟨List.mem_of_find?_eq_some h, ?_⟩
  have := List.find?_some h
  simpa [isT] using this
theorem lookT_no {L : List TE} {s f : ByteArray} (h : lookT L s f = none) : ∀ e ∈ L, ¬ (e.se = s ∧ e.fi = f) := fun e he => by
  have := List.find?_eq_none.1 h e he
  simpa [isT] using this
theorem putT_none {L : List TE} (hL : ∀ x ∈ L, x.se.size ≤ maxLen ∧ x.fi.size ≤ maxLen) {s f : ByteArray} (hs : s.size ≤ maxLen) (hf : f.size ≤ maxLen) (h : lookT L s f = none) (b : Nat) (P : List (Int × PV)) :
    (DataW.map (L.map entT)).put (kL s f) (.lit (.int .u64 b)) = .map ((insT ⟨s, f, b, P⟩ L).map entT) := by
  rw [insT_ent]
  show DataW.map (DataW.insert _ _) = _
  congr 2
  rw [List.filter_eq_self]
  intro p hp
  obtain ⟨e, he, rfl⟩ := List.mem_map.1 hp
  have h1 := lookT_no h e he
  show (!(kL e.se e.fi).sameKey (kL s f)) = true
  rw [sameKey_kL (hL e he).1 (hL e he).2 hs hf, decide_eq_false h1]
  rfl
end Go.Proofs.Ytblpjhgbckfaeaa
