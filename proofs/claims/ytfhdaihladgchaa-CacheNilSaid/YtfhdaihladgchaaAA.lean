/- A table of columns in order, in plain Lean. No condition. -/
import Derived.Test.YtfhdaihladgchaaZ
import Derived.Sort.Walk0
namespace Go.Proofs.Ytfhdaihladgchaa
open Go.RowKit Go.WideMaps Go.Sort
def kLt (s f s' f' : ByteArray) : Bool := Op.bytesLess s.toList s'.toList || (s.toList == s'.toList && Op.bytesLess f.toList f'.toList)
def kEq (s f s' f' : ByteArray) : Bool := s.toList == s'.toList && f.toList == f'.toList
theorem ba_ext {a b : ByteArray} (h : a.toList = b.toList) : a = b := by
  rw [ByteArray.toList_eq, ByteArray.toList_eq] at h
  exact ByteArray.ext (Array.toList_inj.1 h)
theorem kEq_iff {s f s' f' : ByteArray} : kEq s f s' f' = true ↔ s = s' ∧ f = f' := by
  unfold kEq
  rw [Bool.and_eq_true, beq_iff_eq, beq_iff_eq]
  exact ⟨fun h => ⟨ba_ext h.1, ba_ext h.2⟩, fun h => ⟨by rw [h.1], by rw [h.2]⟩⟩
theorem kLt_iff {s f s' f' : ByteArray} : kLt s f s' f' = true ↔ s.toList < s'.toList ∨ (s = s' ∧ f.toList < f'.toList) := by
  unfold kLt
  rw [Bool.or_eq_true, Bool.and_eq_true, beq_iff_eq, bytesLess_eq, bytesLess_eq, decide_eq_true_eq, decide_eq_true_eq]
  constructor
  · rintro (h | ⟨h, h'⟩)
    · exact .inl h
    · exact .inr ⟨ba_ext h, h'⟩
  · rintro (h | ⟨rfl, h'⟩)
    · exact .inl h
    · exact .inr ⟨rfl, h'⟩
theorem kLt_irrefl (s f : ByteArray) : kLt s f s f = false := by
  cases h : kLt s f s f with
  | false => rfl
  | true =>
    rcases kLt_iff.1 h with h | ⟨_, h⟩
    · exact absurd h (List.lt_irrefl _)
    · exact absurd h (List.lt_irrefl _)
theorem kLt_trans {s f s' f' s2 f2 : ByteArray} (h : kLt s f s' f' = true) (h' : kLt s' f' s2 f2 = true) : kLt s f s2 f2 = true := by
  rw [kLt_iff] at *
  rcases h with h | ⟨rfl, h⟩
  · rcases h' with h' | ⟨rfl, _⟩
    · exact .inl (List.lt_trans h h')
    · exact .inl h
  · rcases h' with h' | ⟨rfl, h'⟩
    · exact .inl h'
    · exact .inr ⟨rfl, List.lt_trans h h'⟩
theorem lt_tri (a b : List UInt8) (h : ¬ a < b) (h' : ¬ b < a) : a = b := List.le_antisymm (List.not_lt.1 h') (List.not_lt.1 h)
theorem kLt_tri {s f s' f' : ByteArray} (h : kLt s f s' f' = false) (h' : kEq s f s' f' = false) : kLt s' f' s f = true := by
  rw [kLt_iff]
  have h1 : ¬ (s.toList < s'.toList ∨ (s = s' ∧ f.toList < f'.toList)) := fun e => by rw [kLt_iff.2 e] at h; cases h
  by_cases h2 : s'.toList < s.toList
  · exact .inl h2
  · have h3 := ba_ext (lt_tri _ _ (fun e => h1 (.inl e)) h2)
    subst h3
    refine .inr ⟨rfl, ?_⟩
    rcases Classical.em (f'.toList < f.toList) with h4 | h4
    · exact h4
    · have h5 := ba_ext (lt_tri _ _ (fun e => h1 (.inr ⟨rfl, e⟩)) h4)
      rw [kEq_iff.2 ⟨rfl, h5⟩] at h'
      cases h'
abbrev Tr := ByteArray × ByteArray × List Pt
def ltP (s f : ByteArray) (t : Tr) : Bool := kLt t.1 t.2.1 s f
def eqP (s f : ByteArray) (t : Tr) : Bool := kEq t.1 t.2.1 s f
def Sorted (P : List Tr) : Prop := P.Pairwise fun x y => kLt x.1 x.2.1 y.1 y.2.1 = true
def ptsP (P : List Tr) (s f : ByteArray) : List Pt := match P.find? (eqP s f) with | some x => x.2.2 | none => []
def totP (P : List Tr) : Nat := (P.map fun x => x.2.2.length).sum
/-- A column with new points at its place. -/
def upd (s f : ByteArray) (l : List Pt) : List Tr → List Tr
  | [] => [(s, f, l)]
  | t :: r => if ltP s f t then t :: upd s f l r else if eqP s f t then (t.1, t.2.1, l) :: r else (s, f, l) :: t :: r
theorem lt_not_eq {s f : ByteArray} {t : Tr} (h : ltP s f t = true) : eqP s f t = false := by
  cases h' : eqP s f t with
  | false => rfl
  | true =>
    obtain ⟨h1, h2⟩ := kEq_iff.1 h'
    unfold ltP at h
    rw [h1, h2, kLt_irrefl] at h
    cases h
theorem ptsP_cons (t : Tr) (r : List Tr) (s f : ByteArray) : ptsP (t :: r) s f = if eqP s f t then t.2.2 else ptsP r s f := by
  unfold ptsP
  rw [List.find?_cons]
  cases eqP s f t <;> rfl
theorem ptsP_none {P : List Tr} {s f : ByteArray} (h : ∀ t ∈ P, eqP s f t = false) : ptsP P s f = [] := by
  unfold ptsP
  rw [List.find?_eq_none.2 (fun t ht => by rw [h t ht]; exact Bool.false_ne_true)]
theorem sorted_tail {t : Tr} {r : List Tr} (h : Sorted (t :: r)) : Sorted r := (List.pairwise_cons.1 h).2
/-- Behind a column that is not less than a key, and is not it, there is none of that key. -/
theorem none_behind {t : Tr} {r : List Tr} {s f : ByteArray} (h : Sorted (t :: r)) (h1 : ltP s f t = false) : ∀ y ∈ r, eqP s f y = false := fun y hy => by
  have h2 := (List.pairwise_cons.1 h).1 y hy
  cases h3 : eqP s f y with
  | false => rfl
  | true =>
    obtain ⟨h4, h5⟩ := kEq_iff.1 h3
    unfold ltP at h1
    rw [← h4, ← h5, h2] at h1
    cases h1
theorem upd_mem {s f : ByteArray} {l : List Pt} : ∀ {P : List Tr} {y : Tr}, y ∈ upd s f l P → y ∈ P ∨ (y.2.2 = l ∧ y.1 = s ∧ y.2.1 = f)
  | [], y, h => by
    simp only [upd, List.mem_singleton] at h
    subst h
    exact .inr ⟨rfl, rfl, rfl⟩
  | t :: r, y, h => by
    simp only [upd] at h
    split at h
    · rcases List.mem_cons.1 h with h | h
      · exact .inl (by simp [h])
      · rcases upd_mem h with h | h
        · exact .inl (by simp [h])
        · exact .inr h
    · split at h
      · next he =>
        rcases List.mem_cons.1 h with h | h
        · obtain ⟨h1, h2⟩ := kEq_iff.1 he
          subst h
          exact .inr ⟨rfl, h1, h2⟩
        · exact .inl (by simp [h])
      · rcases List.mem_cons.1 h with h | h
        · subst h
          exact .inr ⟨rfl, rfl, rfl⟩
        · exact .inl h
theorem upd_sorted {s f : ByteArray} {l : List Pt} : ∀ {P : List Tr}, Sorted P → Sorted (upd s f l P)
  | [], _ => by simp [upd, Sorted]
  | t :: r, h => by
    have h0 := List.pairwise_cons.1 h
    simp only [upd]
    split
    · next h1 =>
      refine List.pairwise_cons.2 ⟨fun y hy => ?_, upd_sorted h0.2⟩
      rcases upd_mem hy with hy | ⟨_, hy1, hy2⟩
      · exact h0.1 y hy
      · rw [hy1, hy2]; exact h1
    · next h1 =>
      split
      · exact List.pairwise_cons.2 ⟨h0.1, h0.2⟩
      · next h2 =>
        have h3 : kLt s f t.1 t.2.1 = true := kLt_tri (by simpa [ltP] using h1) (by simpa [eqP] using h2)
        refine List.pairwise_cons.2 ⟨fun y hy => ?_, h⟩
        rcases List.mem_cons.1 hy with hy | hy
        · rw [hy]; exact h3
        · exact kLt_trans h3 (h0.1 y hy)
theorem upd_pts {s f : ByteArray} {l : List Pt} : ∀ {P : List Tr}, Sorted P → ∀ s' f', ptsP (upd s f l P) s' f' = if s' = s ∧ f' = f then l else ptsP P s' f'
  | [], _, s', f' => by
    simp only [upd]
    rw [ptsP_cons]
    by_cases h : s' = s ∧ f' = f
    · rw [if_pos h, if_pos]
      exact kEq_iff.2 ⟨h.1.symm, h.2.symm⟩
    · rw [if_neg h, if_neg]
      intro e
      obtain ⟨h1, h2⟩ := kEq_iff.1 e
      exact h ⟨h1.symm, h2.symm⟩
  | t :: r, h, s', f' => by
    have h0 := List.pairwise_cons.1 h
    simp only [upd]
    split
    · next h1 =>
      rw [ptsP_cons, ptsP_cons, upd_pts h0.2]
      by_cases h2 : s' = s ∧ f' = f
      · obtain ⟨rfl, rfl⟩ := h2
        rw [lt_not_eq h1]; simp
      · rw [if_neg h2, if_neg h2]
    · next h1 =>
      split
      · next h2 =>
        obtain ⟨e1, e2⟩ := kEq_iff.1 h2
        rw [ptsP_cons, ptsP_cons]
        by_cases h3 : s' = s ∧ f' = f
        · rw [if_pos h3, if_pos]
          exact kEq_iff.2 ⟨e1.trans h3.1.symm, e2.trans h3.2.symm⟩
        · rw [if_neg h3]
          have h4 : eqP s' f' t = false := by
            cases h5 : eqP s' f' t with
            | false => rfl
            | true =>
              obtain ⟨q1, q2⟩ := kEq_iff.1 h5
              exact absurd ⟨q1.symm.trans e1, q2.symm.trans e2⟩ h3
          have h4' : eqP s' f' (t.1, t.2.1, l) = false := h4
          rw [h4, h4']; simp
      · next h2 =>
        rw [ptsP_cons]
        by_cases h3 : s' = s ∧ f' = f
        · rw [if_pos h3, if_pos]
          exact kEq_iff.2 ⟨h3.1.symm, h3.2.symm⟩
        · rw [if_neg h3, if_neg]
          intro e
          obtain ⟨q1, q2⟩ := kEq_iff.1 e
          exact h3 ⟨q1.symm, q2.symm⟩
theorem upd_tot {s f : ByteArray} {l : List Pt} : ∀ {P : List Tr}, Sorted P → totP (upd s f l P) + (ptsP P s f).length = totP P + l.length
  | [], _ => by simp [upd, totP, ptsP]
  | t :: r, h => by
    have h0 := List.pairwise_cons.1 h
    simp only [upd]
    rw [ptsP_cons]
    split
    · next h1 =>
      rw [lt_not_eq h1]
      have ih := upd_tot (s := s) (f := f) (l := l) h0.2
      unfold totP at ih ⊢
      simp only [List.map_cons, List.sum_cons, Bool.false_eq_true, if_false]
      omega
    · next h1 =>
      split
      · simp only [totP, List.map_cons, List.sum_cons]
        omega
      · next h2 =>
        rw [ptsP_none (none_behind h (by simpa using h1))]
        simp only [totP, List.map_cons, List.sum_cons, List.length_nil]
        omega
/-- A range is taken out of the columns of a key. -/
def cutP (s f : ByteArray) (a b : Int) (P : List Tr) : List Tr := (P.map fun t => (t.1, t.2.1, if eqP s f t then t.2.2.filter (keep a b) else t.2.2)).filter fun t => decide (t.2.2.length ≠ 0)
theorem cutP_cons (s f : ByteArray) (a b : Int) (t : Tr) (r : List Tr) : cutP s f a b (t :: r) = (if (if eqP s f t then t.2.2.filter (keep a b) else t.2.2).length = 0 then [] else [(t.1, t.2.1, if eqP s f t then t.2.2.filter (keep a b) else t.2.2)]) ++ cutP s f a b r := by
  unfold cutP
  rw [List.map_cons, List.filter_cons]
  by_cases h : (if eqP s f t then t.2.2.filter (keep a b) else t.2.2).length = 0
  · rw [if_pos h, if_neg (by simpa using h)]; rfl
  · rw [if_neg h, if_pos (by simpa using h)]; rfl
theorem cutP_mem {s f : ByteArray} {a b : Int} {P : List Tr} {y : Tr} (h : y ∈ cutP s f a b P) : ∃ t ∈ P, y.1 = t.1 ∧ y.2.1 = t.2.1 ∧ y.2.2 = (if eqP s f t then t.2.2.filter (keep a b) else t.2.2) ∧ y.2.2 ≠ [] := by
  obtain ⟨h1, h2⟩ := List.mem_filter.1 h
  obtain ⟨t, ht, rfl⟩ := List.mem_map.1 h1
  exact ⟨t, ht, rfl, rfl, rfl, fun e => by rw [e] at h2; simp at h2⟩
theorem cutP_sorted {s f : ByteArray} {a b : Int} {P : List Tr} (h : Sorted P) : Sorted (cutP s f a b P) := by
  unfold cutP
  refine List.Pairwise.sublist List.filter_sublist ?_
  rw [List.pairwise_map]
  exact h
theorem cutP_pts' {s f : ByteArray} {a b : Int} (s' f' : ByteArray) : ∀ {P : List Tr}, Sorted P → ptsP (cutP s f a b P) s' f' = if s' = s ∧ f' = f then (ptsP P s' f').filter (keep a b) else ptsP P s' f'
  | [], _ => by simp [cutP, ptsP]
  | t :: r, h => by
    have ih := cutP_pts' (s := s) (f := f) (a := a) (b := b) s' f' (sorted_tail h)
    rw [cutP_cons, ptsP_cons]
    obtain ⟨c, hc⟩ : ∃ c, (if eqP s f t then t.2.2.filter (keep a b) else t.2.2) = c := ⟨_, rfl⟩
    rw [hc]
    cases he : eqP s' f' t with
    | true =>
      obtain ⟨e1, e2⟩ := kEq_iff.1 he
      have hnb := none_behind (s := s') (f := f') h (by unfold ltP; rw [e1, e2]; exact kLt_irrefl _ _)
      rw [ptsP_none hnb] at ih
      have hcF : c = if s' = s ∧ f' = f then t.2.2.filter (keep a b) else t.2.2 := by
        rw [← hc]
        by_cases h3 : s' = s ∧ f' = f
        · rw [if_pos h3, if_pos]
          exact kEq_iff.2 ⟨e1.trans h3.1, e2.trans h3.2⟩
        · rw [if_neg h3, if_neg]
          intro e
          obtain ⟨q1, q2⟩ := kEq_iff.1 e
          exact h3 ⟨e1.symm.trans q1, e2.symm.trans q2⟩
      rw [if_pos rfl, ← hcF]
      by_cases hz : c.length = 0
      · rw [if_pos hz, List.nil_append, ih, List.eq_nil_of_length_eq_zero hz]
        split <;> rfl
      · rw [if_neg hz, List.singleton_append, ptsP_cons, if_pos (show eqP s' f' (t.1, t.2.1, c) = true from he)]
    | false =>
      have hff : (if (false : Bool) = true then t.2.2 else ptsP r s' f') = ptsP r s' f' := if_neg (by simp)
      rw [hff]
      by_cases hz : c.length = 0
      · rw [if_pos hz, List.nil_append, ih]
      · rw [if_neg hz, List.singleton_append, ptsP_cons, if_neg (show ¬ eqP s' f' (t.1, t.2.1, c) = true from by rw [show eqP s' f' (t.1, t.2.1, c) = false from he]; simp), ih]
theorem cutP_pts {s f : ByteArray} {a b : Int} {P : List Tr} (h : Sorted P) (s' f' : ByteArray) : ptsP (cutP s f a b P) s' f' = if s' = s ∧ f' = f then (ptsP P s f).filter (keep a b) else ptsP P s' f' := by
  rw [cutP_pts' s' f' h]
  by_cases h3 : s' = s ∧ f' = f
  · rw [if_pos h3, if_pos h3, h3.1, h3.2]
  · rw [if_neg h3, if_neg h3]
theorem cutP_tot {s f : ByteArray} {a b : Int} : ∀ {P : List Tr}, Sorted P → totP (cutP s f a b P) + (ptsP P s f).length = totP P + ((ptsP P s f).filter (keep a b)).length
  | [], _ => by simp [cutP, totP, ptsP]
  | t :: r, h => by
    have h0 := List.pairwise_cons.1 h
    have ih := cutP_tot (s := s) (f := f) (a := a) (b := b) h0.2
    have happ : ∀ A B : List Tr, totP (A ++ B) = totP A + totP B := fun A B => by unfold totP; rw [List.map_append, List.sum_append_nat]
    rw [cutP_cons, ptsP_cons, happ]
    have hc : totP (t :: r) = t.2.2.length + totP r := by simp [totP]
    rw [hc]
    cases he : eqP s f t with
    | true =>
      obtain ⟨e1, e2⟩ := kEq_iff.1 he
      have hnb := none_behind (s := s) (f := f) h (by unfold ltP; rw [e1, e2]; exact kLt_irrefl _ _)
      rw [ptsP_none hnb] at ih
      simp only [if_true]
      simp at ih
      by_cases hz : (t.2.2.filter (keep a b)).length = 0
      · rw [if_pos hz, hz, ih]; simp [totP]; omega
      · rw [if_neg hz, ih]; simp [totP]; omega
    | false =>
      simp only [Bool.false_eq_true, if_false]
      by_cases hz : t.2.2.length = 0
      · rw [if_pos hz]; simp [totP] at ih ⊢; omega
      · rw [if_neg hz]; simp [totP] at ih ⊢; omega
end Go.Proofs.Ytfhdaihladgchaa
