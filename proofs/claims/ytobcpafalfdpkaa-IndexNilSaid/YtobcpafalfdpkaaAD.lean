/- The forest of tags, as data: a text more, a text less. No condition. -/
import Derived.Test.YtobcpafalfdpkaaAC
namespace Go.Proofs.Ytobcpafalfdpkaa
open Go.RowKit Go.WideMaps Go.Sort
/-- A text stands at a tag. -/
def At (μ : Me) (k v t : BA) : Prop := (get (textsOf μ k v) t).isSome = true
def Full (μ : Me) : Prop := (∀ p ∈ μ.A, μ.V p.1 ≠ []) ∧ ∀ p ∈ μ.A, ∀ q ∈ μ.V p.1, μ.X p.1 q.1 ≠ []
def FullX (μ : Me) (k v : BA) : Prop := (∀ p ∈ μ.A, p.1 ≠ k → μ.V p.1 ≠ []) ∧ ∀ p ∈ μ.A, ∀ q ∈ μ.V p.1, ¬ (p.1 = k ∧ q.1 = v) → μ.X p.1 q.1 ≠ []
theorem Full.x {μ : Me} (h : Full μ) (k v : BA) : FullX μ k v := ⟨fun p hp _ => h.1 p hp, fun p hp q hq _ => h.2 p hp q hq⟩
def addKey (μ : Me) (k : BA) (kb : Nat) : Me := { μ with A := put μ.A k kb, V := updF μ.V k [] }
def addVal (μ : Me) (k v : BA) (vb : Nat) : Me := { μ with V := updF μ.V k (put (μ.V k) v vb), X := updF2 μ.X k v [] }
def addText (μ : Me) (k v t : BA) : Me := { μ with X := updF2 μ.X k v (put (μ.X k v) t true) }
def lessText (μ : Me) (k v t : BA) : Me := { μ with X := updF2 μ.X k v (del (μ.X k v) t) }
def lessVal (μ : Me) (k v : BA) : Me := { μ with V := updF μ.V k (del (μ.V k) v) }
def lessKey (μ : Me) (k : BA) : Me := { μ with A := del μ.A k }
theorem vals_some {μ : Me} {k : BA} {kb : Nat} (h : get μ.A k = some kb) : valsOf μ k = μ.V k := by unfold valsOf; rw [h]
theorem vals_none {μ : Me} {k : BA} (h : get μ.A k = none) : valsOf μ k = [] := by unfold valsOf; rw [h]
theorem texts_some {μ : Me} {k v : BA} {vb : Nat} (h : get (valsOf μ k) v = some vb) : textsOf μ k v = μ.X k v := by unfold textsOf; rw [h]
theorem texts_none {μ : Me} {k v : BA} (h : get (valsOf μ k) v = none) : textsOf μ k v = [] := by unfold textsOf; rw [h]
theorem vals_addKey {μ : Me} {k : BA} (h : get μ.A k = none) (kb : Nat) (k' : BA) : valsOf (addKey μ k kb) k' = valsOf μ k' := by
  unfold valsOf addKey
  simp only [get_put]
  by_cases e : k = k'
  · subst e
    rw [if_pos rfl, h]
    simp only [updF_same]
  · rw [if_neg e, updF_other (Ne.symm e)]
theorem texts_addKey {μ : Me} {k : BA} (h : get μ.A k = none) (kb : Nat) (k' v' : BA) : textsOf (addKey μ k kb) k' v' = textsOf μ k' v' := by
  unfold textsOf
  rw [vals_addKey h]
  rfl
theorem vals_addVal {μ : Me} {k v : BA} {kb : Nat} (h : get μ.A k = some kb) (vb : Nat) (k' : BA) : valsOf (addVal μ k v vb) k' = if k' = k then put (μ.V k) v vb else valsOf μ k' := by
  unfold valsOf addVal
  simp only
  by_cases e : k' = k
  · subst e
    rw [h, if_pos rfl]
    simp only [updF_same]
  · rw [if_neg e, updF_other e]
theorem at_addVal {μ : Me} {k v : BA} {kb : Nat} (h : get μ.A k = some kb) (hv : get (μ.V k) v = none) (vb : Nat) (k' v' t' : BA) : At (addVal μ k v vb) k' v' t' ↔ At μ k' v' t' := by
  unfold At textsOf
  rw [vals_addVal h]
  by_cases e : k' = k
  · subst e
    rw [if_pos rfl, vals_some h, get_put]
    by_cases e2 : v = v'
    · subst e2
      rw [if_pos rfl, hv]
      simp only [addVal, updF2_same]
    · rw [if_neg e2]
      simp only [addVal]
      rw [updF2_other (fun h => e2 h.2.symm)]
  · rw [if_neg e]
    simp only [addVal]
    rw [updF2_other (fun h => e h.1)]
theorem at_addText {μ : Me} {k v : BA} {kb vb : Nat} (h : get μ.A k = some kb) (hv : get (μ.V k) v = some vb) (t k' v' t' : BA) : At (addText μ k v t) k' v' t' ↔ At μ k' v' t' ∨ (k' = k ∧ v' = v ∧ t' = t) := by
  have hva : ∀ k', valsOf (addText μ k v t) k' = valsOf μ k' := fun _ => rfl
  unfold At textsOf
  rw [hva]
  by_cases e : k' = k ∧ v' = v
  · obtain ⟨rfl, rfl⟩ := e
    rw [vals_some h, hv]
    simp only [addText, updF2_same, get_put]
    by_cases e2 : t = t'
    · subst e2; simp
    · rw [if_neg e2]
      constructor
      · exact .inl
      · rintro (h1 | ⟨_, _, h3⟩)
        · exact h1
        · exact absurd h3.symm e2
  · simp only [addText]
    rw [updF2_other e]
    constructor
    · exact .inl
    · rintro (h1 | ⟨h1, h2, _⟩)
      · exact h1
      · exact absurd ⟨h1, h2⟩ e
theorem full_addKey {μ : Me} (hf : Full μ) (k v : BA) (kb : Nat) : FullX (addKey μ k kb) k v := by
  refine ⟨fun p hp hne => ?_, fun p hp q hq hne => ?_⟩
  · rcases put_mem.1 hp with e | ⟨hp, _⟩
    · exact absurd (by rw [e]) hne
    · simp only [addKey]
      rw [updF_other hne]; exact hf.1 p hp
  · by_cases e : p.1 = k
    · simp only [addKey, e, updF_same] at hq
      cases hq
    · simp only [addKey] at hq ⊢
      rw [updF_other e] at hq
      rcases put_mem.1 hp with e1 | ⟨hp, _⟩
      · exact absurd (by rw [e1]) e
      · exact hf.2 p hp q hq
theorem full_addVal {μ : Me} {k v : BA} (hf : FullX μ k v) (vb : Nat) : FullX (addVal μ k v vb) k v := by
  refine ⟨fun p hp hne => ?_, fun p hp q hq hne => ?_⟩
  · simp only [addVal]
    rw [updF_other hne]; exact hf.1 p hp hne
  · simp only [addVal] at hq ⊢
    rw [updF2_other hne]
    by_cases e : p.1 = k
    · rw [e, updF_same] at hq
      rcases put_mem.1 hq with e1 | ⟨hq, _⟩
      · exact absurd ⟨e, by rw [e1]⟩ hne
      · exact hf.2 p hp q (by rw [e]; exact hq) hne
    · rw [updF_other e] at hq
      exact hf.2 p hp q hq hne
theorem put_ne {α : Type} (L : List (BA × α)) (s : BA) (a : α) : put L s a ≠ [] := fun e => by
  have h := (insS_perm (s, a) (del L s)).length_eq
  unfold put at e
  rw [e] at h
  cases h
theorem full_addText {μ : Me} {k v : BA} {vb : Nat} (hf : FullX μ k v) (hv : get (μ.V k) v = some vb) (t : BA) : Full (addText μ k v t) := by
  refine ⟨fun p hp => ?_, fun p hp q hq => ?_⟩
  · by_cases e : p.1 = k
    · show μ.V p.1 ≠ []
      intro h0
      rw [e] at h0
      rw [h0] at hv
      cases hv
    · exact hf.1 p hp e
  · simp only [addText]
    by_cases e : p.1 = k ∧ q.1 = v
    · rw [e.1, e.2, updF2_same]; exact put_ne _ _ _
    · rw [updF2_other e]
      exact hf.2 p hp q hq e
theorem at_lessText {μ : Me} {k v : BA} (t k' v' t' : BA) : At (lessText μ k v t) k' v' t' ↔ At μ k' v' t' ∧ ¬ (k' = k ∧ v' = v ∧ t' = t) := by
  have hva : ∀ k', valsOf (lessText μ k v t) k' = valsOf μ k' := fun _ => rfl
  unfold At textsOf
  rw [hva]
  by_cases e : k' = k ∧ v' = v
  · obtain ⟨rfl, rfl⟩ := e
    cases hg : get (valsOf μ k') v' with
    | none => simp [get]
    | some vb =>
      simp only [lessText, updF2_same, get_del]
      by_cases e2 : t = t'
      · subst e2; simp
      · rw [if_neg e2]
        simp
        intro _ h3; exact e2 h3.symm
  · cases hg : get (valsOf μ k') v' with
    | none => simp [get]
    | some vb =>
      simp only [lessText]
      rw [updF2_other e]
      constructor
      · exact fun h => ⟨h, fun h3 => e ⟨h3.1, h3.2.1⟩⟩
      · exact fun h => h.1
theorem vals_lessVal {μ : Me} {k v : BA} (k' : BA) : valsOf (lessVal μ k v) k' = if k' = k then del (valsOf μ k) v else valsOf μ k' := by
  unfold valsOf lessVal
  simp only
  by_cases e : k' = k
  · subst e
    rw [if_pos rfl]
    cases get μ.A k' with
    | none => rfl
    | some _ => simp only [updF_same]
  · rw [if_neg e, updF_other e]
theorem at_lessVal {μ : Me} {k v : BA} (h0 : textsOf μ k v = []) (k' v' t' : BA) : At (lessVal μ k v) k' v' t' ↔ At μ k' v' t' := by
  unfold At
  by_cases e : k' = k ∧ v' = v
  · obtain ⟨rfl, rfl⟩ := e
    rw [h0]
    have : textsOf (lessVal μ k' v') k' v' = [] := texts_none (by rw [vals_lessVal, if_pos rfl, get_del, if_pos rfl])
    rw [this]
  · have : textsOf (lessVal μ k v) k' v' = textsOf μ k' v' := by
      unfold textsOf
      rw [vals_lessVal]
      by_cases e1 : k' = k
      · subst e1
        rw [if_pos rfl, get_del, if_neg (fun h => e ⟨rfl, h.symm⟩)]
        rfl
      · rw [if_neg e1]; rfl
    rw [this]
theorem at_lessKey {μ : Me} {k : BA} (h0 : valsOf μ k = []) (k' v' t' : BA) : At (lessKey μ k) k' v' t' ↔ At μ k' v' t' := by
  have : ∀ k', valsOf (lessKey μ k) k' = valsOf μ k' := fun k' => by
    by_cases e : k = k'
    · subst e
      rw [h0]
      unfold valsOf lessKey
      simp only
      rw [get_del, if_pos rfl]
    · unfold valsOf lessKey
      simp only
      rw [get_del, if_neg e]
  unfold At textsOf
  rw [this]; rfl
theorem at_congr {μ μ' : Me} (hA : μ'.A = μ.A) (hV : μ'.V = μ.V) (hX : μ'.X = μ.X) (k v t : BA) : At μ' k v t ↔ At μ k v t := by
  unfold At textsOf valsOf
  rw [hA, hV, hX]
theorem full_congr {μ μ' : Me} (hA : μ'.A = μ.A) (hV : μ'.V = μ.V) (hX : μ'.X = μ.X) (h : Full μ) : Full μ' := by
  unfold Full at *
  rw [hA, hV, hX]
  exact h
/-- Bounds on a name's maps. -/
structure BdN (μ : Me) (n : Nat) : Prop where
  A : μ.A.length ≤ n
  V : ∀ k, (μ.V k).length ≤ n
  X : ∀ k v, (μ.X k v).length ≤ n
theorem BdN.more {μ : Me} {n n' : Nat} (h : BdN μ n) (hn : n ≤ n') : BdN μ n' := ⟨Nat.le_trans h.A hn, fun k => Nat.le_trans (h.V k) hn, fun k v => Nat.le_trans (h.X k v) hn⟩
theorem bd_addKey {μ : Me} {n : Nat} (h : BdN μ n) (k : BA) (kb : Nat) : BdN (addKey μ k kb) (n + 1) := by
  refine ⟨Nat.le_trans (put_len _ _ _) (Nat.succ_le_succ h.A), fun k' => ?_, fun a b => Nat.le_succ_of_le (h.X a b)⟩
  simp only [addKey]
  by_cases e : k' = k
  · rw [e, updF_same]; exact Nat.zero_le _
  · rw [updF_other e]; exact Nat.le_succ_of_le (h.V k')
theorem bd_addVal {μ : Me} {n : Nat} (h : BdN μ n) (k v : BA) (vb : Nat) : BdN (addVal μ k v vb) (n + 1) := by
  refine ⟨Nat.le_succ_of_le h.A, fun k' => ?_, fun a b => ?_⟩
  · simp only [addVal]
    by_cases e : k' = k
    · rw [e, updF_same]; exact Nat.le_trans (put_len _ _ _) (Nat.succ_le_succ (h.V k))
    · rw [updF_other e]; exact Nat.le_succ_of_le (h.V k')
  · simp only [addVal]
    by_cases e : a = k ∧ b = v
    · rw [e.1, e.2, updF2_same]; exact Nat.zero_le _
    · rw [updF2_other e]; exact Nat.le_succ_of_le (h.X a b)
theorem bd_addText {μ : Me} {n : Nat} (h : BdN μ n) (k v t : BA) : BdN (addText μ k v t) (n + 1) := by
  refine ⟨Nat.le_succ_of_le h.A, fun k' => Nat.le_succ_of_le (h.V k'), fun a b => ?_⟩
  simp only [addText]
  by_cases e : a = k ∧ b = v
  · rw [e.1, e.2, updF2_same]; exact Nat.le_trans (put_len _ _ _) (Nat.succ_le_succ (h.X k v))
  · rw [updF2_other e]; exact Nat.le_succ_of_le (h.X a b)
end Go.Proofs.Ytobcpafalfdpkaa
