/- Two escaped texts are the same only where what was escaped is the same: plain facts on lists of bytes. No condition. -/
import Derived.Test.YtobcpafalfdpkaaG
namespace Go.Proofs.Ytobcpafalfdpkaa
def Stop (x : List UInt8) : Prop := x = [] ∨ ∃ c r, x = c :: r ∧ (c = 44 ∨ c = 61)
theorem spec92 : spec 92 = true := by decide
theorem spec44 : spec 44 = true := by decide
theorem spec61 : spec 61 = true := by decide
theorem esc_cons (c : UInt8) (l : List UInt8) : esc (c :: l) = esc1 c ++ esc l := by simp [esc]
theorem stop_head {c : UInt8} {l : List UInt8} (h : Stop (esc1 c ++ l)) : False := by
  rcases h with h | ⟨d, r, h, hd⟩
  · unfold esc1 at h; split at h <;> simp at h
  · unfold esc1 at h
    cases hs : spec c with
    | true =>
      rw [hs] at h
      simp at h
      rcases hd with rfl | rfl
      · exact absurd h.1 (by decide)
      · exact absurd h.1 (by decide)
    | false =>
      rw [hs] at h
      simp at h
      obtain ⟨rfl, _⟩ := h
      rcases hd with rfl | rfl
      · rw [spec44] at hs; cases hs
      · rw [spec61] at hs; cases hs
theorem esc_cut : ∀ (l l' x x' : List UInt8), Stop x → Stop x' → esc l ++ x = esc l' ++ x' → l = l' ∧ x = x'
  | [], [], x, x', _, _, h => ⟨rfl, by simpa [esc] using h⟩
  | [], c :: r, x, x', hx, _, h => by
    rw [esc_cons] at h
    have : x = esc1 c ++ (esc r ++ x') := by simpa [esc] using h
    rw [this] at hx
    exact (stop_head hx).elim
  | c :: r, [], x, x', _, hx', h => by
    rw [esc_cons] at h
    have : x' = esc1 c ++ (esc r ++ x) := by simpa [esc] using h.symm
    rw [this] at hx'
    exact (stop_head hx').elim
  | c :: r, c' :: r', x, x', hx, hx', h => by
    rw [esc_cons, esc_cons] at h
    have key : c = c' ∧ esc r ++ x = esc r' ++ x' := by
      unfold esc1 at h
      cases hs : spec c with
      | true =>
        cases hs' : spec c' with
        | true => rw [hs, hs'] at h; simpa using h
        | false =>
          rw [hs, hs'] at h
          simp at h
          rw [← h.1, spec92] at hs'; cases hs'
      | false =>
        cases hs' : spec c' with
        | true =>
          rw [hs, hs'] at h
          simp at h
          rw [h.1, spec92] at hs; cases hs
        | false => rw [hs, hs'] at h; simpa using h
    obtain ⟨e1, e2⟩ := esc_cut r r' x x' hx hx' key.2
    exact ⟨by rw [key.1, e1], e2⟩
def encT (T : List (List UInt8 × List UInt8)) : List UInt8 := T.flatMap fun p => 44 :: (esc p.1 ++ 61 :: esc p.2)
theorem encT_stop (T : List (List UInt8 × List UInt8)) : Stop (encT T) := by
  cases T with
  | nil => exact .inl rfl
  | cons p T => exact .inr ⟨44, _, rfl, .inl rfl⟩
theorem encT_cons (p : List UInt8 × List UInt8) (T : List (List UInt8 × List UInt8)) : encT (p :: T) = 44 :: (esc p.1 ++ (61 :: (esc p.2 ++ encT T))) := by simp [encT]
theorem encT_inj : ∀ T T', encT T = encT T' → T = T'
  | [], [], _ => rfl
  | [], p :: T, h => by rw [encT_cons] at h; cases h
  | p :: T, [], h => by rw [encT_cons] at h; cases h
  | p :: T, p' :: T', h => by
    rw [encT_cons, encT_cons] at h
    have h := List.tail_eq_of_cons_eq h
    obtain ⟨e1, h⟩ := esc_cut _ _ _ _ (.inr ⟨61, _, rfl, .inr rfl⟩) (.inr ⟨61, _, rfl, .inr rfl⟩) h
    have h := List.tail_eq_of_cons_eq h
    obtain ⟨e2, h⟩ := esc_cut _ _ _ _ (encT_stop _) (encT_stop _) h
    rw [encT_inj T T' h, Prod.ext e1 e2]
def tagsL (n : Nat) (kf vf : Nat → ByteArray) : List (List UInt8 × List UInt8) := (List.range n).map fun i => ((kf i).data.toList, (vf i).data.toList)
theorem textTo_enc (name : ByteArray) (kf vf : Nat → ByteArray) (n : Nat) : textTo name kf vf n = esc name.data.toList ++ encT (tagsL n kf vf) := by
  simp only [textTo, encT, tagsL, List.flatMap_map]
  rfl
theorem tagsL_eq {n m : Nat} {kf vf kg vg : Nat → ByteArray} (h : tagsL n kf vf = tagsL m kg vg) : n = m ∧ ∀ i, i < n → (kf i).data.toList = (kg i).data.toList ∧ (vf i).data.toList = (vg i).data.toList := by
  have hl := congrArg List.length h
  simp [tagsL] at hl
  subst hl
  refine ⟨rfl, fun i hi => ?_⟩
  have := congrArg (fun l => l[i]?) h
  simp [tagsL, hi] at this
  rw [this.1, this.2]
  exact ⟨rfl, rfl⟩
theorem same_of_text {na nb : ByteArray} {n m : Nat} {kf vf kg vg : Nat → ByteArray} (h : textTo na kf vf n = textTo nb kg vg m) : sameB na nb n m kf vf kg vg = true := by
  rw [textTo_enc, textTo_enc] at h
  obtain ⟨e1, e2⟩ := esc_cut _ _ _ _ (encT_stop _) (encT_stop _) h
  obtain ⟨e3, e4⟩ := tagsL_eq (encT_inj _ _ e2)
  simp only [sameB, Bool.and_eq_true, beq_iff_eq, decide_eq_true_eq, List.all_eq_true, ByteArray.toList_eq]
  refine ⟨e1, e3, fun i hi => ?_⟩
  obtain ⟨a, b⟩ := e4 i (by simpa using hi)
  simp [tagEq, ByteArray.toList_eq, a, b]
theorem text_of_same {na nb : ByteArray} {n m : Nat} {kf vf kg vg : Nat → ByteArray} (h : sameB na nb n m kf vf kg vg = true) : textTo na kf vf n = textTo nb kg vg m := by
  simp only [sameB, Bool.and_eq_true, beq_iff_eq, decide_eq_true_eq, List.all_eq_true, ByteArray.toList_eq] at h
  obtain ⟨e1, rfl, e3⟩ := h
  have e4 : tagsL n kf vf = tagsL n kg vg := by
    refine List.map_congr_left fun i hi => ?_
    have := e3 i hi
    simp only [tagEq, Bool.and_eq_true, beq_iff_eq, ByteArray.toList_eq] at this
    rw [this.1, this.2]
  rw [textTo_enc, textTo_enc, e1, e4]
end Go.Proofs.Ytobcpafalfdpkaa
