/- The two disks' files side by side: a file as a name, bytes and a mark; what the small changes of a row do to it. No condition. -/
import Derived.Test.YtjkgcpbgacdgaaaAD
namespace Go.Proofs.Ytjkgcpbgacdgaaa
open Go.RowKit Go.Sort
structure PF where
  name : ByteArray
  bs : List Value
  syn : Int
def pE (e : Ent) : PF := ⟨e.name, e.bs, e.syn⟩
def pR (e : RFile) : PF := ⟨e.name, e.bs, e.syn⟩
def Like (L : List Ent) (R : List RFile) : Prop := L.map pE = R.map pR
def lookP (P : List PF) (s : ByteArray) : Option PF := P.find? fun e => e.name.data.toList == s.data.toList
def setP (P : List PF) (s : ByteArray) (bs : List Value) (syn : Int) : List PF := P.map fun e => if e.name.data.toList == s.data.toList then ⟨e.name, bs, syn⟩ else e
def dropP (P : List PF) (s : ByteArray) : List PF := P.filter fun e => !(e.name.data.toList == s.data.toList)
def insP (x : PF) : List PF → List PF
  | [] => [x]
  | y :: r => if (key x.name).before (key y.name) then x :: y :: r else y :: insP x r
theorem look_p (L : List Ent) (s : ByteArray) : lookP (L.map pE) s = (look L s).map pE := by
  unfold lookP look
  rw [List.find?_map]; rfl
theorem setF_p (L : List Ent) (s : ByteArray) (v : Value) (bs : List Value) (syn : Int) : (setF L s v bs syn).map pE = setP (L.map pE) s bs syn := by
  unfold setF setP
  simp only [List.map_map]
  refine List.map_congr_left fun e _ => ?_
  show pE (if (e.name.data.toList == s.data.toList) = true then _ else e) = if (e.name.data.toList == s.data.toList) = true then _ else _
  split <;> rfl
theorem dropE_p (L : List Ent) (s : ByteArray) : (dropE L s).map pE = dropP (L.map pE) s := by
  unfold dropE dropP
  rw [List.filter_map]; rfl
theorem insE_p (x : Ent) : ∀ L : List Ent, (insE x L).map pE = insP (pE x) (L.map pE)
  | [] => rfl
  | y :: r => by
    simp only [insE, insP, List.map_cons]
    have : (key (pE x).name).before (key (pE y).name) = (key x.name).before (key y.name) := rfl
    rw [this]
    split
    · rfl
    · rw [List.map_cons, insE_p x r]
/-- Names apart. -/
def Apart (P : List PF) : Prop := P.Pairwise fun a b => a.name ≠ b.name
theorem apart_at {P : List PF} (h : Apart P) {i j : Nat} {x y : PF} (hi : P[i]? = some x) (hj : P[j]? = some y) (hn : x.name = y.name) : i = j := by
  unfold Apart at h
  rw [List.pairwise_iff_getElem] at h
  obtain ⟨hi1, hi2⟩ := List.getElem?_eq_some_iff.1 hi
  obtain ⟨hj1, hj2⟩ := List.getElem?_eq_some_iff.1 hj
  rcases Nat.lt_trichotomy i j with h1 | h1 | h1
  · have := h i j hi1 hj1 h1
    rw [hi2, hj2] at this
    exact absurd hn this
  · exact h1
  · have := h j i hj1 hi1 h1
    rw [hi2, hj2] at this
    exact absurd hn.symm this
theorem name_beq {s t : ByteArray} : (s.data.toList == t.data.toList) = decide (s = t) := by
  rw [Bool.eq_iff_iff]
  simp [ByteArray.ext_iff]
theorem name_ne {s t : ByteArray} (h : s ≠ t) : (s.data.toList == t.data.toList) = false := by rw [name_beq]; exact decide_eq_false h
theorem name_ne' {s t : ByteArray} (h : s ≠ t) : (!(s.data.toList == t.data.toList)) = true := by rw [name_ne h]; rfl
theorem setP_at {P : List PF} (h : Apart P) {k : Nat} {x : PF} (hx : P[k]? = some x) (bs : List Value) (syn : Int) : setP P x.name bs syn = P.set k ⟨x.name, bs, syn⟩ := by
  refine List.ext_getElem? fun j => ?_
  unfold setP
  rw [List.getElem?_map, List.getElem?_set]
  have hk : k < P.length := (List.getElem?_eq_some_iff.1 hx).1
  by_cases hjk : k = j
  · subst hjk
    rw [hx]
    simp [hk]
  · rw [if_neg hjk]
    cases hj : P[j]? with
    | none => rfl
    | some y =>
      have : y.name ≠ x.name := fun e => hjk (apart_at h hx hj e.symm)
      show some (if (y.name.data.toList == x.name.data.toList) = true then _ else y) = some y
      rw [name_ne this]; rfl
theorem dropP_at {P : List PF} (h : Apart P) {k : Nat} {x : PF} (hx : P[k]? = some x) : dropP P x.name = P.eraseIdx k := by
  obtain ⟨hk, hx'⟩ := List.getElem?_eq_some_iff.1 hx
  have e1 : P = P.take k ++ x :: P.drop (k + 1) := by
    rw [← hx', List.getElem_cons_drop, List.take_append_drop]
  have hp := h
  unfold Apart at hp
  rw [e1, List.pairwise_append, List.pairwise_cons] at hp
  obtain ⟨_, ⟨h2, _⟩, h3⟩ := hp
  rw [List.eraseIdx_eq_take_drop_succ]
  conv => lhs; rw [e1]
  unfold dropP
  rw [List.filter_append, List.filter_cons]
  have f1 : (P.take k).filter (fun e => !(e.name.data.toList == x.name.data.toList)) = P.take k := by
    rw [List.filter_eq_self]
    intro y hy
    have := h3 y hy x (by simp)
    exact name_ne' this
  have f2 : (P.drop (k + 1)).filter (fun e => !(e.name.data.toList == x.name.data.toList)) = P.drop (k + 1) := by
    rw [List.filter_eq_self]
    intro y hy
    have := (h2 y hy).symm
    exact name_ne' this
  rw [f1, f2]
  simp
theorem dropP_none {P : List PF} {s : ByteArray} (h : ∀ x ∈ P, x.name ≠ s) : dropP P s = P := by
  unfold dropP
  rw [List.filter_eq_self]
  intro y hy
  exact name_ne' (h y hy)
theorem lookP_at {P : List PF} (h : Apart P) {k : Nat} {x : PF} (hx : P[k]? = some x) : lookP P x.name = some x := by
  unfold lookP
  obtain ⟨hk, hx'⟩ := List.getElem?_eq_some_iff.1 hx
  rw [List.find?_eq_some_iff_getElem]
  refine ⟨by simp, k, hk, hx', fun j hj => ?_⟩
  have hj' : P[j]? = some P[j] := List.getElem?_eq_getElem _
  have : P[j].name ≠ x.name := fun e => by have := apart_at h hj' hx e; omega
  exact name_ne' this
theorem lookP_none {P : List PF} {s : ByteArray} (h : ∀ x ∈ P, x.name ≠ s) : lookP P s = none := by
  unfold lookP
  rw [List.find?_eq_none]
  intro x hx
  rw [name_ne (h x hx)]; exact Bool.false_ne_true
/-- A file in its place: behind those whose names are less. -/
theorem insP_at {x : PF} : ∀ {P : List PF} {k : Nat}, k ≤ P.length → (∀ j, (hj : j < k) → ∀ hj' : j < P.length, Op.bytesLess P[j].name.data.toList x.name.data.toList = true) → (∀ hk : k < P.length, Op.bytesLess P[k].name.data.toList x.name.data.toList = false) →
    (∀ y ∈ P, y.name ≠ x.name) → insP x P = P.take k ++ x :: P.drop k
  | [], k, hk, _, _, _ => by
    simp at hk
    subst hk
    rfl
  | y :: r, 0, _, _, h0, hn => by
    have h1 := h0 (by simp)
    have : (key x.name).before (key y.name) = true := by
      show bytesBefore x.name.data.toList y.name.data.toList = true
      rw [before_lt]
      simp at h1
      rw [bytesLess_eq] at h1 ⊢
      simp at h1 ⊢
      have hne : y.name ≠ x.name := hn y (by simp)
      rcases Classical.em (x.name.data.toList < y.name.data.toList) with h2 | h2
      · exact h2
      · exact absurd (ByteArray.ext (by simpa using List.le_antisymm (List.not_lt.1 h2) h1)) hne
    simp [insP, this]
  | y :: r, k + 1, hk, h0, h1, hn => by
    have hy := h0 0 (by omega) (by simp)
    have : (key x.name).before (key y.name) = false := by
      show bytesBefore x.name.data.toList y.name.data.toList = false
      rw [before_lt]
      simp at hy
      rw [bytesLess_eq] at hy ⊢
      simp at hy ⊢
      exact List.le_of_lt hy
    have ih := insP_at (x := x) (P := r) (k := k) (by simpa using hk) (fun j hj hj' => by have := h0 (j + 1) (by omega) (by simpa using hj'); simpa using this) (fun hk' => by have := h1 (by simpa using hk'); simpa using this) (fun z hz => hn z (by simp [hz]))
    simp [insP, this, ih]
end Go.Proofs.Ytjkgcpbgacdgaaa
