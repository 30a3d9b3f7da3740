/- Both caches in one heap. No condition. -/
import Derived.Test.YtfhdaihladgchaaAC
namespace Go.Proofs.Ytfhdaihladgchaa
open Go.RowKit Go.WideMaps Go.Sort
structure Both (W w : World) (S T : Nat → Prop) (B : Nat) (O : Option Obj) (c m : Nat) (L : List Col) (most : Int) (r : Nat) (R : List RC) (rmost : Int) : Prop where
  ca : CacheAt w S c m L most (total L)
  re : RefAt w T r R rmost
  apart : ∀ k, S k → ¬ T k
  low : ∀ k, S k ∨ T k → W.heap.size ≤ k ∧ k < w.heap.size
  box : ∀ o, O = some o → w.heap[B]? = some o ∧ ¬ S B ∧ ¬ T B
  below : Below W.heap.size W w
  good : Good (R.map pc)
section
variable {W w w' : World} {S T : Nat → Prop} {B : Nat} {O : Option Obj} {c m m' : Nat} {L L' : List Col} {most : Int} {r : Nat} {R R' : List RC} {rmost : Int}
theorem Both.cache (h : Both W w S T B O c m L most r R rmost) (ht : Turns S w w') (hc : CacheAt w' (With S w w') c m' L' most (total L')) : Both W w' (With S w w') T B O c m' L' most r R rmost := by
  refine ⟨hc, h.re.beside ht fun k hk hl hs => h.apart k hs hk, fun k hk hT => ?_, fun k hk => ?_, fun o ho => ?_, h.below.trans (ht.below h.below.size fun k hk => (h.low k (.inl hk)).1), h.good⟩
  · rcases hk with hk | hk
    · exact h.apart k hk hT
    · have := (h.low k (.inr hT)).2; omega
  · have hs := ht.size
    rcases hk with (hk | hk) | hk
    · have := h.low k (.inl hk); omega
    · have := h.below.size; omega
    · have := h.low k (.inr hk); omega
  · obtain ⟨h1, h2, h3⟩ := h.box o ho
    have hl := heap_lt h1
    refine ⟨(ht.block B hl h2).trans h1, fun hk => ?_, h3⟩
    rcases hk with hk | hk
    · exact h2 hk
    · omega
theorem Both.ref (h : Both W w S T B O c m L most r R rmost) (ht : Turns T w w') (hr : RefAt w' (With T w w') r R' rmost) (hg : Good (R'.map pc)) : Both W w' S (With T w w') B O c m L most r R' rmost := by
  refine ⟨h.ca.beside ht fun k hk hl hT => h.apart k hk hT, hr, fun k hk hT => ?_, fun k hk => ?_, fun o ho => ?_, h.below.trans (ht.below h.below.size fun k hk => (h.low k (.inr hk)).1), hg⟩
  · rcases hT with hT | hT
    · exact h.apart k hk hT
    · have := (h.low k (.inl hk)).2; omega
  · have hs := ht.size
    rcases hk with hk | (hk | hk)
    · have := h.low k (.inl hk); omega
    · have := h.low k (.inr hk); omega
    · have := h.below.size; omega
  · obtain ⟨h1, h2, h3⟩ := h.box o ho
    have hl := heap_lt h1
    refine ⟨(ht.block B hl h3).trans h1, h2, fun hk => ?_⟩
    rcases hk with hk | hk
    · exact h3 hk
    · omega
theorem Both.later (h : Both W w S T B O c m L most r R rmost) (hb : Below w.heap.size w w') : Both W w' S T B O c m L most r R rmost :=
  ⟨h.ca.later hb, h.re.later hb, h.apart, fun k hk => by have := h.low k hk; have := hb.size; omega, fun o ho => by
    obtain ⟨h1, h2, h3⟩ := h.box o ho
    exact ⟨(hb.block B (heap_lt h1)).trans h1, h2, h3⟩, h.below.trans (hb.mono h.below.size), h.good⟩
theorem Both.drew (h : Both W w S T B O c m L most r R rmost) : Both W w.drew S T B O c m L most r R rmost := h.later ((Below.refl _ _).drew)
theorem Both.boxed (h : Both W w S T B O c m L most r R rmost) (o : Obj) : Both W (w.alloc o) S T w.heap.size (some o) c m L most r R rmost := by
  have h2 := h.later ((Below.refl w.heap.size w).alloc (Nat.le_refl _) o)
  refine ⟨h2.ca, h2.re, h2.apart, h2.low, fun o' ho => ?_, h2.below, h2.good⟩
  cases ho
  exact ⟨heap_alloc_new w o, fun hk => by have := (h.low _ (.inl hk)).2; omega, fun hk => by have := (h.low _ (.inr hk)).2; omega⟩
end
theorem CacheAt.shrink {w : World} {S : Nat → Prop} {c m : Nat} {L : List Col} {most size : Int} (h : CacheAt w S c m L most size) : CacheAt w (fun k => S k ∧ k < w.heap.size) c m L most size := by
  obtain ⟨es, cl, hm, hrest⟩ := h.map
  exact ⟨h.blk, h.map, h.col, h.apart, ⟨⟨h.here.1, heap_lt h.blk⟩, ⟨h.here.2, heap_lt hm⟩⟩, fun x hx g hg => ⟨h.mine x hx g hg, ((h.col x hx).1.lt g hg).2⟩⟩
/-- The same columns in both. -/
def Like (L : List Col) (R : List RC) : Prop := (∀ s f, ptsOf (look L s f) = ptsP (R.map pc) s f) ∧ total L = totP (R.map pc)
theorem like_put {L L' : List Col} {R R' : List RC} {most : Int} {s f : ByteArray} {p : Pt} (h : Like L R) (hg : Good (R.map pc)) (h1 : ∀ s' f', ptsOf (look L' s' f') = if s' = s ∧ f' = f then putN (ptsOf (look L s f)) (total L) most p else ptsOf (look L s' f')) (h2 : total L' = total L + putD (ptsOf (look L s f)) (total L) most p) (h3 : R'.map pc = newP (R.map pc) most s f p) : Like L' R' := by
  unfold newP at h3
  rw [h.1 s f, h.2] at h1 h2
  refine ⟨fun s' f' => ?_, ?_⟩
  · rw [h1, h3]
    by_cases he : putE (ptsP (R.map pc) s f) (totP (R.map pc)) most p = 0
    · rw [if_pos he, upd_pts hg.sorted]
      unfold putN
      rw [if_pos he, h.1 s' f']
    · rw [if_neg he]
      unfold putN
      rw [if_neg he, h.1 s' f']
      split
      · next hk => rw [hk.1, hk.2]
      · rfl
  · rw [h2, h3]
    by_cases he : putE (ptsP (R.map pc) s f) (totP (R.map pc)) most p = 0
    · rw [if_pos he]
      have h4 := upd_tot (s := s) (f := f) (l := putL (ptsP (R.map pc) s f) p) hg.sorted
      have h5 := putL_len (ptsP (R.map pc) s f) p
      unfold putD
      rw [if_pos he]
      omega
    · rw [if_neg he]
      unfold putD
      rw [if_neg he]; rfl
theorem takeP_cut (s f : ByteArray) (a b : Int) (R : List RC) : takeP s f a b R = cutP s f a b (R.map pc) := by
  unfold takeP cutP
  rw [List.map_map]
  congr 1
theorem gone_tot (s f : ByteArray) (a b : Int) : ∀ R : List RC, gone s f a b R + totP (cutP s f a b (R.map pc)) = totP (R.map pc)
  | [] => rfl
  | x :: r => by
    have ih := gone_tot s f a b r
    have h1 := takeL_le s f a b x
    have happ : ∀ A B : List Tr, totP (A ++ B) = totP A + totP B := fun A B => by unfold totP; rw [List.map_append, List.sum_append_nat]
    have h2 : gone s f a b (x :: r) = (x.l.length - (takeL s f a b x).length) + gone s f a b r := by unfold gone; simp
    have h3 : totP ((x :: r).map pc) = x.l.length + totP (r.map pc) := by unfold totP; simp [pc]
    rw [List.map_cons] at h3 ⊢
    rw [cutP_cons, happ, h2, h3]
    have h4 : (if eqP s f (pc x) = true then (pc x).2.2.filter (keep a b) else (pc x).2.2) = takeL s f a b x := rfl
    rw [h4]
    by_cases hz : (takeL s f a b x).length = 0
    · rw [if_pos hz]; simp [totP] at ih ⊢; omega
    · rw [if_neg hz]; simp [totP] at ih ⊢; omega
theorem gone_eq {s f : ByteArray} {a b : Int} {R : List RC} (hg : Good (R.map pc)) : gone s f a b R = endI (ptsP (R.map pc) s f) a b - loI (ptsP (R.map pc) s f) a := by
  have h1 := gone_tot s f a b R
  have h2 := cutP_tot (s := s) (f := f) (a := a) (b := b) hg.sorted
  have h3 := cutL_len (ptsP (R.map pc) s f) a b
  rw [cutL_filter (hg.rises s f)] at h3
  omega
theorem like_take {L L' : List Col} {R R' : List RC} {s f : ByteArray} {a b : Int} (h : Like L R) (hg : Good (R.map pc)) (h1 : ∀ s' f', ptsOf (look L' s' f') = if s' = s ∧ f' = f then cutL (ptsOf (look L s f)) a b else ptsOf (look L s' f')) (h2 : total L' + (endI (ptsOf (look L s f)) a b - loI (ptsOf (look L s f)) a) = total L) (h3 : R'.map pc = takeP s f a b R) : Like L' R' := by
  rw [takeP_cut] at h3
  rw [h.1 s f] at h1 h2
  refine ⟨fun s' f' => ?_, ?_⟩
  · rw [h1, h3, cutP_pts hg.sorted, cutL_filter (hg.rises s f), h.1 s' f']
  · have h4 := gone_tot s f a b R
    rw [gone_eq hg] at h4
    rw [h3]
    have := h.2
    omega
theorem like_nil : Like [] [] := ⟨fun _ _ => rfl, rfl⟩
theorem good_nil : Good ([] : List Tr) := ⟨List.Pairwise.nil, fun t ht => by cases ht⟩
theorem newP_good {P : List Tr} {most : Int} {s f : ByteArray} {p : Pt} (h : Good P) : Good (newP P most s f p) := by
  unfold newP
  split
  · exact h.upd s f ⟨putL_ne _ _, rises_putL (h.rises s f)⟩
  · exact h
theorem newP_tot {P : List Tr} {most : Int} {s f : ByteArray} {p : Pt} (h : Good P) : totP (newP P most s f p) ≤ totP P + 1 := by
  unfold newP
  split
  · have h4 := upd_tot (s := s) (f := f) (l := putL (ptsP P s f) p) h.sorted
    have h5 := putL_len (ptsP P s f) p
    split at h5 <;> omega
  · omega
end Go.Proofs.Ytfhdaihladgchaa
