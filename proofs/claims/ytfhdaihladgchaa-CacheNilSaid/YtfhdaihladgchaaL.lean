/- A column of the cache is laid anew. No condition. -/
import Derived.Test.YtfhdaihladgchaaK
namespace Go.Proofs.Ytfhdaihladgchaa
open Go.RowKit Go.WideMaps
def insC (x : Col) : List Col → List Col
  | [] => [x]
  | y :: r => if (kL x.se x.fi).before (kL y.se y.fi) then x :: y :: r else y :: insC x r
theorem insC_ent (x : Col) : ∀ L : List Col, (insC x L).map ent = DataW.insert (ent x) (L.map ent)
  | [] => rfl
  | y :: r => by
    simp only [insC, List.map_cons, DataW.insert]
    have : (ent x).1.before (ent y).1 = (kL x.se x.fi).before (kL y.se y.fi) := rfl
    rw [this]
    split
    · rfl
    · rw [List.map_cons, insC_ent x r]
theorem insC_perm (x : Col) : ∀ L : List Col, (insC x L).Perm (x :: L)
  | [] => List.Perm.refl _
  | y :: r => by
    simp only [insC]
    split
    · exact List.Perm.refl _
    · exact ((insC_perm x r).cons y).trans (List.Perm.swap x y r)
def dropC (L : List Col) (s f : ByteArray) : List Col := L.filter fun x => !isCol s f x
def putC (L : List Col) (s f : ByteArray) (v : Value) (l : List Pt) : List Col := insC ⟨s, f, v, l⟩ (dropC L s f)
def total (L : List Col) : Nat := (L.map fun x => x.l.length).sum
theorem put_dropC {L : List Col} {s f : ByteArray} (hL : ∀ x ∈ L, x.se.size ≤ maxLen ∧ x.fi.size ≤ maxLen) (hs : s.size ≤ maxLen) (hf : f.size ≤ maxLen) : (L.map ent).filter (fun p => !p.1.sameKey (kL s f)) = (dropC L s f).map ent := by
  rw [List.filter_map, dropC]
  congr 1
  refine List.filter_congr fun x hx => ?_
  show (!(kL x.se x.fi).sameKey (kL s f)) = !isCol s f x
  rw [sameKey_kL (hL x hx).1 (hL x hx).2 hs hf]; rfl
theorem putC_ent {L : List Col} {s f : ByteArray} (hL : ∀ x ∈ L, x.se.size ≤ maxLen ∧ x.fi.size ≤ maxLen) (hs : s.size ≤ maxLen) (hf : f.size ≤ maxLen) (v : Value) (l : List Pt) : (DataW.map (L.map ent)).put (kL s f) (rowD v) = .map ((putC L s f v l).map ent) := by
  rw [putC, insC_ent, ← put_dropC hL hs hf]; rfl
theorem find_insC (p : Col → Bool) (x : Col) (hp : p x = false) : ∀ L : List Col, (insC x L).find? p = L.find? p
  | [] => by simp [insC, hp]
  | y :: r => by
    simp only [insC]
    split
    · rw [List.find?_cons, hp]
    · rw [List.find?_cons, List.find?_cons, find_insC p x hp r]
theorem find_insC' (p : Col → Bool) (x : Col) (hp : p x = true) : ∀ L : List Col, (∀ y ∈ L, p y = false) → (insC x L).find? p = some x
  | [], _ => by simp [insC, hp]
  | y :: r, h => by
    simp only [insC]
    split
    · rw [List.find?_cons, hp]
    · rw [List.find?_cons, h y (by simp), find_insC' p x hp r fun z hz => h z (by simp [hz])]
theorem isCol_eq {s f s' f' : ByteArray} {x : Col} (h : isCol s f x = true) : isCol s' f' x = decide (s = s' ∧ f = f') := by
  have := of_decide_eq_true h
  unfold isCol
  rw [this.1, this.2]
theorem look_dropC (L : List Col) (s f s' f' : ByteArray) (h : ¬ (s' = s ∧ f' = f)) : look (dropC L s f) s' f' = look L s' f' := by
  unfold look dropC
  rw [List.find?_filter]
  congr 1
  funext x
  cases hx : isCol s f x with
  | true =>
    rw [isCol_eq hx]
    simp
    intro h1 h2; exact h ⟨h1.symm, h2.symm⟩
  | false => simp
theorem look_dropC' (L : List Col) (s f : ByteArray) : look (dropC L s f) s f = none := by
  unfold look dropC
  rw [List.find?_filter, List.find?_eq_none]
  intro x _
  simp
theorem look_putC (L : List Col) (s f : ByteArray) (v : Value) (l : List Pt) (s' f' : ByteArray) : ptsOf (look (putC L s f v l) s' f') = if s' = s ∧ f' = f then l else ptsOf (look L s' f') := by
  by_cases h : s' = s ∧ f' = f
  · rw [if_pos h]
    obtain ⟨rfl, rfl⟩ := h
    unfold look putC
    rw [find_insC' _ _ (by simp [isCol])]
    · rfl
    · intro y hy
      simpa using (List.mem_filter.1 hy).2
  · rw [if_neg h, ← look_dropC L s f s' f' h]
    unfold look putC
    rw [find_insC _ _ (by simp [isCol]; intro h1 h2; exact h ⟨h1.symm, h2.symm⟩)]
theorem look_cons (x : Col) (r : List Col) (s f : ByteArray) : look (x :: r) s f = if isCol s f x then some x else look r s f := by
  unfold look
  rw [List.find?_cons]
  cases isCol s f x <;> rfl
theorem total_dropC {s f : ByteArray} : ∀ {L : List Col}, (L.Pairwise fun a b => ¬ (a.se = b.se ∧ a.fi = b.fi)) → total L = total (dropC L s f) + (ptsOf (look L s f)).length
  | [], _ => rfl
  | x :: r, h => by
    have h1 := List.pairwise_cons.1 h
    have ih := total_dropC (s := s) (f := f) h1.2
    rw [look_cons]
    cases hx : isCol s f x with
    | true =>
      have hd : dropC (x :: r) s f = dropC r s f := by simp [dropC, hx]
      have hn : dropC r s f = r := by
        unfold dropC
        rw [List.filter_eq_self]
        intro y hy
        cases hy2 : isCol s f y with
        | false => rfl
        | true =>
          have e1 := of_decide_eq_true hx
          have e2 := of_decide_eq_true hy2
          exact absurd ⟨e1.1.trans e2.1.symm, e1.2.trans e2.2.symm⟩ (h1.1 y hy)
      rw [hd, hn]
      simp [total, ptsOf]; omega
    | false =>
      have hd : dropC (x :: r) s f = x :: dropC r s f := by simp [dropC, hx]
      rw [hd]
      simp only [total, List.map_cons, List.sum_cons] at ih ⊢
      simp only [Bool.false_eq_true, if_false]
      omega
theorem total_putC {L : List Col} {s f : ByteArray} (h : L.Pairwise fun a b => ¬ (a.se = b.se ∧ a.fi = b.fi)) (v : Value) (l : List Pt) : total (putC L s f v l) + (ptsOf (look L s f)).length = total L + l.length := by
  rw [total_dropC (s := s) (f := f) h]
  have : total (putC L s f v l) = l.length + total (dropC L s f) := by
    unfold total putC
    rw [((insC_perm ⟨s, f, v, l⟩ (dropC L s f)).map fun x => x.l.length).sum_nat]
    simp
  omega
def setC (L : List Col) (s f : ByteArray) (l : List Pt) : List Col := L.map fun x => if isCol s f x then ⟨x.se, x.fi, x.v, l⟩ else x
theorem setC_ent (L : List Col) (s f : ByteArray) (l : List Pt) : (setC L s f l).map ent = L.map ent := by
  unfold setC
  rw [List.map_map]
  refine List.map_congr_left fun x _ => ?_
  simp only [Function.comp]
  split <;> rfl
theorem look_setC {L : List Col} {s f : ByteArray} {e : Col} (h : look L s f = some e) (l : List Pt) (s' f' : ByteArray) : ptsOf (look (setC L s f l) s' f') = if s' = s ∧ f' = f then l else ptsOf (look L s' f') := by
  induction L with
  | nil => cases h
  | cons x r ih =>
    rw [look_cons] at h
    have hs : setC (x :: r) s f l = (if isCol s f x then (⟨x.se, x.fi, x.v, l⟩ : Col) else x) :: setC r s f l := rfl
    rw [hs, look_cons, look_cons]
    cases hx : isCol s f x with
    | true =>
      have e1 := isCol_eq (s' := s') (f' := f') hx
      have e2 : isCol s' f' ⟨x.se, x.fi, x.v, l⟩ = isCol s' f' x := rfl
      simp only [if_true]
      rw [e2, e1]
      by_cases hk : s' = s ∧ f' = f
      · obtain ⟨rfl, rfl⟩ := hk
        simp [ptsOf]
      · have hk' : ¬ (s = s' ∧ f = f') := fun e => hk ⟨e.1.symm, e.2.symm⟩
        simp only [hk, hk', decide_false, Bool.false_eq_true, if_false]
        clear ih h hs
        induction r with
        | nil => rfl
        | cons y t iht =>
          have hs2 : setC (y :: t) s f l = (if isCol s f y then (⟨y.se, y.fi, y.v, l⟩ : Col) else y) :: setC t s f l := rfl
          rw [hs2, look_cons, look_cons]
          cases hy : isCol s f y with
          | true =>
            have e3 := isCol_eq (s' := s') (f' := f') hy
            have e4 : isCol s' f' ⟨y.se, y.fi, y.v, l⟩ = isCol s' f' y := rfl
            simp only [if_true]
            rw [e4, e3]
            simp only [hk', decide_false, Bool.false_eq_true, if_false]
            exact iht
          | false =>
            simp only [Bool.false_eq_true, if_false]
            split
            · rfl
            · exact iht
    | false =>
      rw [hx] at h
      simp only [Bool.false_eq_true, if_false] at h ⊢
      by_cases hk : s' = s ∧ f' = f
      · have hk0 := hk
        obtain ⟨rfl, rfl⟩ := hk
        simp only [hx, Bool.false_eq_true, if_false]
        rw [ih h]; simp
      · rw [if_neg hk]
        split
        · rfl
        · rw [ih h, if_neg hk]
theorem uniq {L : List Col} (h : L.Pairwise fun a b => ¬ (a.se = b.se ∧ a.fi = b.fi)) {s f : ByteArray} {e x : Col} (he : look L s f = some e) (hx : x ∈ L) (hk : isCol s f x = true) : x = e := by
  induction L with
  | nil => cases hx
  | cons y r ih =>
    have h1 := List.pairwise_cons.1 h
    rw [look_cons] at he
    cases hy : isCol s f y with
    | true =>
      rw [hy] at he
      simp at he
      subst he
      rcases List.mem_cons.1 hx with rfl | hx
      · rfl
      · have e1 := of_decide_eq_true hk
        have e2 := of_decide_eq_true hy
        exact absurd ⟨e2.1.trans e1.1.symm, e2.2.trans e1.2.symm⟩ (h1.1 x hx)
    | false =>
      rw [hy] at he
      rcases List.mem_cons.1 hx with rfl | hx
      · rw [hy] at hk; cases hk
      · exact ih h1.2 (by simpa using he) hx
theorem total_setC {L : List Col} (h : L.Pairwise fun a b => ¬ (a.se = b.se ∧ a.fi = b.fi)) {s f : ByteArray} {e : Col} (he : look L s f = some e) (l : List Pt) (hl : l.length = e.l.length) : total (setC L s f l) = total L := by
  unfold total setC
  rw [List.map_map]
  congr 1
  refine List.map_congr_left fun x hx => ?_
  simp only [Function.comp]
  split
  · next hk => rw [uniq h he hx hk]; exact hl
  · rfl
section
variable {w w' : World} {S S' : Nat → Prop} {c m : Nat} {L : List Col} {most size size' : Int}
theorem CacheAt.uniq (h : CacheAt w S c m L most size) : L.Pairwise fun a b => ¬ (a.se = b.se ∧ a.fi = b.fi) := h.apart.imp fun x => x.2
theorem CacheAt.sizes (h : CacheAt w S c m L most size) : ∀ x ∈ L, x.se.size ≤ maxLen ∧ x.fi.size ≤ maxLen := fun x hx => ⟨(h.col x hx).2.2.2.1, (h.col x hx).2.2.2.2⟩
/-- A column laid, new or longer. -/
theorem CacheAt.put (h : CacheAt w S c m L most size) (s f : ByteArray) (v : Value) (l : List Pt) (n : Nat) (hs : s.size ≤ maxLen) (hf : f.size ≤ maxLen)
    (hc : w'.heap[c]? = some (.cells #[.int .i64 most, .int .i64 size', .map (some m)] 60 (0, 0)))
    (hm : w'.ownsMap Try.prog 63 rowE m n ((DataW.map (L.map ent)).put (kL s f) (rowD v)))
    (hv : w'.ownsRow 0 33 4 v l.length (ptC l)) (hr : Rises l) (hne : l ≠ [])
    (hk : ∀ x ∈ L, isCol s f x = false → ∀ g, x.v.ownBlock = some g → w'.heap[g]? = w.heap[g]? ∧ v.ownBlock ≠ some g)
    (hS : ∀ k, S k → S' k) (hg : ∀ g, v.ownBlock = some g → S' g) : CacheAt w' S' c m (putC L s f v l) most size' := by
  have hp := insC_perm ⟨s, f, v, l⟩ (dropC L s f)
  have hmem : ∀ x, x ∈ putC L s f v l → x = ⟨s, f, v, l⟩ ∨ (x ∈ L ∧ isCol s f x = false) := fun x hx => by
    rcases List.mem_cons.1 (hp.mem_iff.1 hx) with h1 | h1
    · exact .inl h1
    · have := List.mem_filter.1 h1
      exact .inr ⟨this.1, by simpa using this.2⟩
  refine ⟨hc, ?_, fun x hx => ?_, ?_, ⟨hS _ h.here.1, hS _ h.here.2⟩, fun x hx g hxg => ?_⟩
  · rw [putC_ent h.sizes hs hf v l] at hm
    obtain ⟨es, cl, h1, h2, h3, h4⟩ := hm
    refine ⟨es, cl, h1, h2, ?_, h4⟩
    injection h4 with h4
    have := congrArg List.length h4
    rw [length_sorted] at this
    simp at this
    exact Nat.le_of_eq this.symm
  · rcases hmem x hx with rfl | ⟨h1, h2⟩
    · exact ⟨hv, hr, hne, hs, hf⟩
    · obtain ⟨h3, h4⟩ := h.col x h1
      exact ⟨ownsRow_same h3 fun g hg => (hk x h1 h2 g hg).1, h4⟩
  · have hpw : (⟨s, f, v, l⟩ :: dropC L s f : List Col).Pairwise fun a b => (∀ g, a.v.ownBlock = some g → b.v.ownBlock ≠ some g) ∧ ¬ (a.se = b.se ∧ a.fi = b.fi) := by
      refine List.pairwise_cons.2 ⟨fun x hx => ?_, h.apart.sublist List.filter_sublist⟩
      have h1 := List.mem_filter.1 hx
      have h2 : isCol s f x = false := by simpa using h1.2
      refine ⟨fun g hg hxg => (hk x h1.1 h2 g hxg).2 hg, fun e => ?_⟩
      have : isCol s f x = true := decide_eq_true ⟨e.1.symm, e.2.symm⟩
      rw [h2] at this; cases this
    refine hp.symm.pairwise hpw ?_
    intro a b hab
    exact ⟨fun g hb ha => hab.1 g ha hb, fun e => hab.2 ⟨e.1.symm, e.2.symm⟩⟩
  · rcases hmem x hx with rfl | ⟨h1, h2⟩
    · exact hg g hxg
    · exact hS g (h.mine x h1 g hxg)
/-- A column laid anew in its own memory. -/
theorem CacheAt.set (h : CacheAt w S c m L most size) (s f : ByteArray) (e : Col) (l : List Pt) (he : look L s f = some e)
    (hv : w'.ownsRow 0 33 4 e.v l.length (ptC l)) (hr : Rises l) (hne : l ≠ [])
    (hcm : w'.heap[c]? = w.heap[c]? ∧ w'.heap[m]? = w.heap[m]?)
    (hk : ∀ g, e.v.ownBlock ≠ some g → S g → g < w.heap.size → w'.heap[g]? = w.heap[g]?) : CacheAt w' S c m (setC L s f l) most size := by
  obtain ⟨es, cl, hm, hrest⟩ := h.map
  have hent := setC_ent L s f l
  have hlen : (setC L s f l).length = L.length := by simp [setC]
  refine ⟨hcm.1.trans h.blk, ⟨es, cl, hcm.2.trans hm, ?_⟩, fun x hx => ?_, ?_, h.here, fun x hx g hxg => ?_⟩
  · rw [hent, hlen]; exact hrest
  · obtain ⟨y, hy, rfl⟩ := List.mem_map.1 hx
    cases hk2 : isCol s f y with
    | true =>
      have := Ytfhdaihladgchaa.uniq h.uniq he hy hk2
      subst this
      simp only [if_true]
      exact ⟨hv, hr, hne, (h.col y hy).2.2.2⟩
    | false =>
      simp only [Bool.false_eq_true, if_false]
      obtain ⟨h3, h4⟩ := h.col y hy
      refine ⟨ownsRow_same h3 fun g hg => hk g (fun hc => ?_) (h.mine y hy g hg) (h3.lt g hg).2, h4⟩
      have hne' : y ≠ e := fun h0 => by
        have := (look_mem he).2
        rw [← h0] at this
        have h5 : isCol s f y = true := decide_eq_true this
        rw [hk2] at h5; cases h5
      rcases List.mem_iff_getElem.1 hy with ⟨i, hi, rfl⟩
      rcases List.mem_iff_getElem.1 (look_mem he).1 with ⟨j, hj, hej⟩
      rcases Nat.lt_trichotomy i j with hij | rfl | hij
      · exact ((List.pairwise_iff_getElem.1 h.apart) i j hi hj hij).1 g hg (by rw [hej]; exact hc)
      · exact hne' hej
      · exact ((List.pairwise_iff_getElem.1 h.apart) j i hj hi hij).1 g (by rw [hej]; exact hc) hg
  · unfold setC
    rw [List.pairwise_map]
    refine h.apart.imp fun {a b} hab => ?_
    have hv : ∀ x : Col, (if isCol s f x then (⟨x.se, x.fi, x.v, l⟩ : Col) else x).v = x.v ∧ (if isCol s f x then (⟨x.se, x.fi, x.v, l⟩ : Col) else x).se = x.se ∧ (if isCol s f x then (⟨x.se, x.fi, x.v, l⟩ : Col) else x).fi = x.fi := fun x => by split <;> exact ⟨rfl, rfl, rfl⟩
    rw [(hv a).1, (hv b).1, (hv a).2.1, (hv b).2.1, (hv a).2.2, (hv b).2.2]
    exact hab
  · obtain ⟨y, hy, rfl⟩ := List.mem_map.1 hx
    refine h.mine y hy g ?_
    revert hxg
    split <;> exact id
end
end Go.Proofs.Ytfhdaihladgchaa
