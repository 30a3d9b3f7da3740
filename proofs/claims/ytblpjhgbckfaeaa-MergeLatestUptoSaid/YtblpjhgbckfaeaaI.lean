/- The table of maps behind a store. No condition. -/
import Derived.Test.YtblpjhgbckfaeaaH
namespace Go.Proofs.Ytblpjhgbckfaeaa
open Go.RowKit Go.WideMaps
theorem len_ins {H : Type} (x : Lit × DataW H) : ∀ L : List (Lit × DataW H), (DataW.insert x L).length = L.length + 1
  | [] => rfl
  | y :: r => by
    simp only [DataW.insert]
    split
    · rfl
    · rw [List.length_cons, len_ins x r, List.length_cons]
theorem len_sorted {H : Type} : ∀ L : List (Lit × DataW H), (L.foldr DataW.insert []).length = L.length
  | [] => rfl
  | x :: r => by rw [List.foldr_cons, len_ins, len_sorted r, List.length_cons]
theorem ownsMap_tight {H : Type} {w : World} {P : Program} {k : TypeId} {R : Value → Option (DataW H × List MemPlace)} {b n : Nat} {xs : List (Lit × DataW H)} (h : w.ownsMap P k R b n (.map xs)) : w.ownsMap P k R b xs.length (.map xs) := by
  obtain ⟨es, c, h1, h2, h3, h4⟩ := h
  refine ⟨es, c, h1, h2, ?_, h4⟩
  injection h4 with h4
  rw [h4, len_sorted]
  simp
theorem ownsMap_same {w w' : World} {P : Program} {k : TypeId} {R : Value → Option (DataW Unit × List MemPlace)} {b n : Nat} {D : DataW Unit} (h : w.ownsMap P k R b n D) (hk : w'.heap[b]? = w.heap[b]?) : w'.ownsMap P k R b n D := by
  obtain ⟨es, c, h1, h2⟩ := h
  exact ⟨es, c, hk.trans h1, h2⟩
theorem TabAt.same {w w' : World} {S : Nat → Prop} {m : Nat} {L : List TE} (h : TabAt w S m L) (hk : ∀ k, S k → k < w.heap.size → w'.heap[k]? = w.heap[k]?) : TabAt w' S m L :=
  ⟨ownsMap_same h.map (hk m h.here h.map.lt), fun x hx => ownsMap_same (h.inner x hx) (hk x.b (h.mine x hx) (h.inner x hx).lt), h.sizes, h.apart, h.other, h.here, h.mine⟩
def setT (L : List TE) (s f : ByteArray) (P : List (Int × PV)) : List TE := L.map fun x => if isT s f x then ⟨x.se, x.fi, x.b, P⟩ else x
theorem setT_ent (L : List TE) (s f : ByteArray) (P : List (Int × PV)) : (setT L s f P).map entT = L.map entT := by
  unfold setT
  rw [List.map_map]
  refine List.map_congr_left fun x _ => ?_
  simp only [Function.comp]
  split <;> rfl
theorem setT_mem {L : List TE} {s f : ByteArray} {P : List (Int × PV)} {y : TE} (h : y ∈ setT L s f P) : ∃ x ∈ L, y.se = x.se ∧ y.fi = x.fi ∧ y.b = x.b ∧ ((isT s f x = true ∧ y.pts = P) ∨ (isT s f x = false ∧ y.pts = x.pts)) := by
  obtain ⟨x, hx, rfl⟩ := List.mem_map.1 h
  refine ⟨x, hx, ?_⟩
  split
  · rename_i h1; exact ⟨rfl, rfl, rfl, .inl ⟨h1, rfl⟩⟩
  · rename_i h1; exact ⟨rfl, rfl, rfl, .inr ⟨by simpa using h1, rfl⟩⟩
/-- One value more in an inner map. -/
theorem TabAt.put {w w' : World} {S : Nat → Prop} {m n : Nat} {L : List TE} {s f : ByteArray} {x : TE} {P : List (Int × PV)} (h : TabAt w S m L) (hl : lookT L s f = some x) (hm : w'.ownsMap Try.prog 2 valE x.b n (.map (P.map entP))) (hk : ∀ k, k < w.heap.size → k ≠ x.b → w'.heap[k]? = w.heap[k]?) : TabAt w' S m (setT L s f P) := by
  obtain ⟨hx, hxs, hxf⟩ := lookT_mem hl
  have one : ∀ y ∈ L, isT s f y = true → y = x := fun y hy h1 => by
    have h2 : y.se = s ∧ y.fi = f := of_decide_eq_true h1
    refine Classical.byContradiction fun hne => ?_
    have hp := h.apart
    have : ∀ (L : List TE), L.Pairwise (fun a b => a.b ≠ b.b ∧ ¬ (a.se = b.se ∧ a.fi = b.fi)) → x ∈ L → y ∈ L → False := by
      intro L
      induction L with
      | nil => intro _ hx _; cases hx
      | cons z r ih =>
        intro hp hx hy
        rw [List.pairwise_cons] at hp
        rcases List.mem_cons.1 hx with e1 | hx'
        · rcases List.mem_cons.1 hy with e2 | hy'
          · exact hne (e2.trans e1.symm)
          · exact (hp.1 y hy').2 (by rw [← e1]; exact ⟨hxs.trans h2.1.symm, hxf.trans h2.2.symm⟩)
        · rcases List.mem_cons.1 hy with e2 | hy'
          · exact (hp.1 x hx').2 (by rw [← e2]; exact ⟨h2.1.trans hxs.symm, h2.2.trans hxf.symm⟩)
          · exact ih hp.2 hx' hy'
    exact this L hp hx hy
  have bs : ∀ y ∈ L, isT s f y = false → y.b ≠ x.b := fun y hy h1 => by
    have hp := h.apart
    have : ∀ (L : List TE), L.Pairwise (fun a b => a.b ≠ b.b ∧ ¬ (a.se = b.se ∧ a.fi = b.fi)) → x ∈ L → y ∈ L → y.b ≠ x.b := by
      intro L
      induction L with
      | nil => intro _ hx _; cases hx
      | cons z r ih =>
        intro hp hx hy
        rw [List.pairwise_cons] at hp
        rcases List.mem_cons.1 hx with e1 | hx'
        · rcases List.mem_cons.1 hy with e2 | hy'
          · have : isT s f y = true := by rw [e2, ← e1]; exact decide_eq_true ⟨hxs, hxf⟩
            rw [this] at h1; cases h1
          · rw [e1]; exact fun e => (hp.1 y hy').1 e.symm
        · rcases List.mem_cons.1 hy with e2 | hy'
          · rw [e2]; exact (hp.1 x hx').1
          · exact ih hp.2 hx' hy'
    exact this L hp hx hy
  refine ⟨?_, fun y hy => ?_, fun y hy => ?_, ?_, fun y hy => ?_, h.here, fun y hy => ?_⟩
  · rw [setT_ent, show (setT L s f P).length = L.length by simp [setT]]
    exact ownsMap_same h.map (hk m h.map.lt fun e => h.other x hx e.symm)
  · obtain ⟨z, hz, e1, e2, e3, h4 | h4⟩ := setT_mem hy
    · rw [e3, h4.2, one z hz h4.1]
      have := ownsMap_tight hm
      rw [List.length_map] at this
      exact this
    · rw [e3, h4.2]
      exact ownsMap_same (h.inner z hz) (hk z.b (h.inner z hz).lt (bs z hz h4.1))
  · obtain ⟨z, hz, e1, e2, _⟩ := setT_mem hy
    rw [e1, e2]; exact h.sizes z hz
  · unfold setT
    rw [List.pairwise_map]
    refine h.apart.imp fun {a b} hab => ?_
    have ha : (if isT s f a then (⟨a.se, a.fi, a.b, P⟩ : TE) else a).b = a.b ∧ (if isT s f a then (⟨a.se, a.fi, a.b, P⟩ : TE) else a).se = a.se ∧ (if isT s f a then (⟨a.se, a.fi, a.b, P⟩ : TE) else a).fi = a.fi := by split <;> exact ⟨rfl, rfl, rfl⟩
    have hb : (if isT s f b then (⟨b.se, b.fi, b.b, P⟩ : TE) else b).b = b.b ∧ (if isT s f b then (⟨b.se, b.fi, b.b, P⟩ : TE) else b).se = b.se ∧ (if isT s f b then (⟨b.se, b.fi, b.b, P⟩ : TE) else b).fi = b.fi := by split <;> exact ⟨rfl, rfl, rfl⟩
    rw [ha.1, ha.2.1, ha.2.2, hb.1, hb.2.1, hb.2.2]
    exact hab
  · obtain ⟨z, hz, _, _, e3, _⟩ := setT_mem hy
    rw [e3]; exact h.other z hz
  · obtain ⟨z, hz, _, _, e3, _⟩ := setT_mem hy
    rw [e3]; exact h.mine z hz
/-- One key more, with an inner map that is new. -/
theorem TabAt.insert {w w' : World} {S S' : Nat → Prop} {m n b : Nat} {L : List TE} {s f : ByteArray} (h : TabAt w S m L) (hl : lookT L s f = none) (hs : s.size ≤ maxLen) (hf : f.size ≤ maxLen) (hb : w.heap.size ≤ b) (hin : w'.ownsMap Try.prog 2 valE b 0 (.map []))
    (hm : w'.ownsMap Try.prog 47 mapE m n (.map ((insT ⟨s, f, b, []⟩ L).map entT))) (hk : ∀ k, k < w.heap.size → k ≠ m → w'.heap[k]? = w.heap[k]?) (hS : ∀ k, S k → S' k) (hSb : S' b) : TabAt w' S' m (insT ⟨s, f, b, []⟩ L) := by
  refine ⟨?_, fun y hy => ?_, fun y hy => ?_, ?_, fun y hy => ?_, hS m h.here, fun y hy => ?_⟩
  · have := ownsMap_tight hm
    rw [List.length_map] at this
    exact this
  · rcases insT_mem.1 hy with rfl | hy
    · exact hin
    · exact ownsMap_same (h.inner y hy) (hk y.b (h.inner y hy).lt (h.other y hy))
  · rcases insT_mem.1 hy with rfl | hy
    · exact ⟨hs, hf⟩
    · exact h.sizes y hy
  · rw [(insT_perm _ L).pairwise_iff (fun {a b} hab => ⟨fun e => hab.1 e.symm, fun e => hab.2 ⟨e.1.symm, e.2.symm⟩⟩), List.pairwise_cons]
    refine ⟨fun e he => ⟨?_, fun e2 => lookT_no hl e he ⟨e2.1.symm, e2.2.symm⟩⟩, h.apart⟩
    have := (h.inner e he).lt
    show b ≠ e.b
    omega
  · rcases insT_mem.1 hy with rfl | hy
    · have := h.map.lt
      show b ≠ m
      omega
    · exact h.other y hy
  · rcases insT_mem.1 hy with rfl | hy
    · exact hSb
    · exact hS y.b (h.mine y hy)
end Go.Proofs.Ytblpjhgbckfaeaa
