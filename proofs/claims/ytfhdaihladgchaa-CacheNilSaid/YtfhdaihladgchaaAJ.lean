/- The keys of the cache's map, as pairs of strings; two tables in order that say the same are one. No condition. -/
import Derived.Test.YtfhdaihladgchaaAI
namespace Go.Proofs.Ytfhdaihladgchaa
open Go.RowKit Go.Sort Go.Maps
abbrev Ky := ByteArray × ByteArray
theorem has_ent (L : List Col) (x : List UInt8) : has (DataW.map (L.map ent)) (.string x) = true ↔ ∃ c ∈ L, kB c.se c.fi = x := by
  rw [has_eq, List.any_eq_true]
  constructor
  · rintro ⟨p, hp, hs⟩
    obtain ⟨c, hc, rfl⟩ := List.mem_map.1 hp
    refine ⟨c, hc, ?_⟩
    have : (Lit.string (kB c.se c.fi)).sameKey (.string x) = true := hs
    simpa [Lit.sameKey] using this
  · rintro ⟨c, hc, rfl⟩
    refine ⟨ent c, List.mem_map.2 ⟨c, hc, rfl⟩, ?_⟩
    show (Lit.string (kB c.se c.fi)).sameKey (.string (kB c.se c.fi)) = true
    simp [Lit.sameKey]
theorem decode {L : List Col} (hL : ∀ x ∈ L, x.se.size ≤ maxLen ∧ x.fi.size ≤ maxLen) : ∀ ss : List (List UInt8), (∀ x ∈ ss, ∃ c ∈ L, kB c.se c.fi = x) → ∃ ks : List Ky, ss = ks.map (fun k => kB k.1 k.2) ∧ keyC ss = ks.flatMap encP ∧ ∀ k ∈ ks, ∃ c ∈ L, k = (c.se, c.fi)
  | [], _ => ⟨[], rfl, rfl, fun k hk => by cases hk⟩
  | x :: r, h => by
    obtain ⟨c, hc, rfl⟩ := h x (by simp)
    obtain ⟨ks, h1, h2, h3⟩ := decode hL r fun y hy => h y (by simp [hy])
    refine ⟨(c.se, c.fi) :: ks, by rw [List.map_cons, ← h1], ?_, fun k hk => ?_⟩
    · have h4 : keyC (kB c.se c.fi :: r) = cellsK (kB c.se c.fi) ++ keyC r := rfl
      rw [h4, h2, cellsK_of (encK_of (hL c hc).1 (hL c hc).2)]; rfl
    · rcases List.mem_cons.1 hk with rfl | hk
      · exact ⟨c, hc, rfl⟩
      · exact h3 k hk
/-- The map's keys, each once. -/
structure KeysOf (L : List Col) (ks : List Ky) : Prop where
  nodup : ks.Nodup
  mem : ∀ k, k ∈ ks ↔ ∃ c ∈ L, k = (c.se, c.fi)
theorem keysOf_all {L : List Col} (hL : ∀ x ∈ L, x.se.size ≤ maxLen ∧ x.fi.size ≤ maxLen) {ss : List (List UInt8)} (h : AllK (DataW.map (L.map ent)) ss) : ∃ ks : List Ky, KeysOf L ks ∧ keyC ss = ks.flatMap encP ∧ ss.length = ks.length := by
  obtain ⟨ks, h1, h2, h3⟩ := decode hL ss fun x hx => (has_ent L x).1 ((h.2 x).1 hx)
  refine ⟨ks, ⟨?_, fun k => ⟨h3 k, ?_⟩⟩, h2, by rw [h1, List.length_map]⟩
  · have := h.1
    rw [h1] at this
    exact List.Pairwise.of_map (f := fun k : Ky => kB k.1 k.2) (fun a b hab e => hab (by rw [e])) this
  · rintro ⟨c, hc, rfl⟩
    have h4 := (h.2 (kB c.se c.fi)).2 ((has_ent L _).2 ⟨c, hc, rfl⟩)
    rw [h1] at h4
    obtain ⟨k, hk, he⟩ := List.mem_map.1 h4
    obtain ⟨c', hc', rfl⟩ := h3 k hk
    obtain ⟨e1, e2⟩ := kL_eq (hL c' hc').1 (hL c' hc').2 (hL c hc).1 (hL c hc).2 (by rw [kL_kB, kL_kB, he])
    rw [← e1, ← e2]; exact hk
/-- Two tables in order that say the same are one. -/
theorem sorted_eq : ∀ {P Q : List Tr}, Sorted P → Sorted Q → (∀ t ∈ P, t.2.2 ≠ []) → (∀ t ∈ Q, t.2.2 ≠ []) → (∀ s f, ptsP P s f = ptsP Q s f) → P = Q
  | [], [], _, _, _, _, _ => rfl
  | [], t :: r, _, _, _, hq, h => by
    have := h t.1 t.2.1
    rw [ptsP_cons, if_pos (show eqP t.1 t.2.1 t = true from kEq_iff.2 ⟨rfl, rfl⟩)] at this
    exact absurd this.symm (hq t (by simp))
  | t :: r, [], _, _, hp, _, h => by
    have := h t.1 t.2.1
    rw [ptsP_cons, if_pos (show eqP t.1 t.2.1 t = true from kEq_iff.2 ⟨rfl, rfl⟩)] at this
    exact absurd this (hp t (by simp))
  | t :: r, u :: q, hsp, hsq, hp, hq, h => by
    have self : ∀ x : Tr, eqP x.1 x.2.1 x = true := fun x => kEq_iff.2 ⟨rfl, rfl⟩
    have hlt : ∀ (a b : Tr) (l l' : List Tr), Sorted (a :: l) → Sorted (b :: l') → (∀ x ∈ a :: l, x.2.2 ≠ []) → (∀ s f, ptsP (a :: l) s f = ptsP (b :: l') s f) → kLt a.1 a.2.1 b.1 b.2.1 = false := fun a b l l' ha hb hna hh => by
      cases hc : kLt a.1 a.2.1 b.1 b.2.1 with
      | false => rfl
      | true =>
        have h1 := hh a.1 a.2.1
        rw [ptsP_cons, if_pos (self a)] at h1
        have h2 : ptsP (b :: l') a.1 a.2.1 = [] := ptsP_none fun y hy => by
          have h3 : kLt a.1 a.2.1 y.1 y.2.1 = true := by
            rcases List.mem_cons.1 hy with rfl | hy
            · exact hc
            · exact kLt_trans hc ((List.pairwise_cons.1 hb).1 y hy)
          cases h4 : eqP a.1 a.2.1 y with
          | false => rfl
          | true =>
            obtain ⟨e1, e2⟩ := kEq_iff.1 h4
            rw [e1, e2, kLt_irrefl] at h3
            cases h3
        rw [h2] at h1
        exact absurd h1 (hna a (by simp))
    have h1 := hlt t u r q hsp hsq hp h
    have h2 := hlt u t q r hsq hsp hq fun s f => (h s f).symm
    have h3 : kEq t.1 t.2.1 u.1 u.2.1 = true := by
      cases hc : kEq t.1 t.2.1 u.1 u.2.1 with
      | true => rfl
      | false => have := kLt_tri h1 hc; rw [h2] at this; cases this
    obtain ⟨e1, e2⟩ := kEq_iff.1 h3
    have h4 := h t.1 t.2.1
    rw [ptsP_cons, ptsP_cons, if_pos (self t), if_pos (show eqP t.1 t.2.1 u = true from kEq_iff.2 ⟨e1.symm, e2.symm⟩)] at h4
    have htu : t = u := by
      obtain ⟨a, b, c⟩ := t
      obtain ⟨a', b', c'⟩ := u
      simp only at e1 e2 h4
      rw [e1, e2, h4]
    subst htu
    have hrq : ∀ s f, ptsP r s f = ptsP q s f := fun s f => by
      have h5 := h s f
      rw [ptsP_cons, ptsP_cons] at h5
      by_cases h6 : eqP s f t = true
      · obtain ⟨q1, q2⟩ := kEq_iff.1 h6
        have hn : ltP s f t = false := by unfold ltP; rw [q1, q2]; exact kLt_irrefl _ _
        rw [ptsP_none (none_behind hsp hn), ptsP_none (none_behind hsq hn)]
      · rwa [if_neg h6, if_neg h6] at h5
    rw [sorted_eq (sorted_tail hsp) (sorted_tail hsq) (fun y hy => hp y (by simp [hy])) (fun y hy => hq y (by simp [hy])) hrq]
/-- The cache's columns in order. -/
def colsP (L : List Col) (ks : List Ky) : List Tr := ks.map fun k => (k.1, k.2, ptsOf (look L k.1 k.2))
theorem look_some {L : List Col} {c : Col} (hc : c ∈ L) : ∃ d, look L c.se c.fi = some d := by
  cases h : look L c.se c.fi with
  | some d => exact ⟨d, rfl⟩
  | none =>
    unfold look at h
    rw [List.find?_eq_none] at h
    exact absurd (decide_eq_true (p := c.se = c.se ∧ c.fi = c.fi) ⟨rfl, rfl⟩) (h c hc)
open Classical in
theorem colsP_pts {L : List Col} {ks : List Ky} (h : KeysOf L ks) (s f : ByteArray) : ptsP (colsP L ks) s f = ptsOf (look L s f) := by
  have key : ∀ l : List Ky, ptsP (colsP L l) s f = if (s, f) ∈ l then ptsOf (look L s f) else [] := by
    intro l
    induction l with
    | nil => rw [if_neg (by simp)]; rfl
    | cons k r ih =>
      have hcons : colsP L (k :: r) = (k.1, k.2, ptsOf (look L k.1 k.2)) :: colsP L r := rfl
      rw [hcons, ptsP_cons, ih]
      by_cases h1 : k = (s, f)
      · subst h1
        rw [if_pos (show eqP s f (s, f, ptsOf (look L s f)) = true from kEq_iff.2 ⟨rfl, rfl⟩), if_pos (by simp)]
      · have h2 : eqP s f (k.1, k.2, ptsOf (look L k.1 k.2)) = false := by
          cases h3 : eqP s f (k.1, k.2, ptsOf (look L k.1 k.2)) with
          | false => rfl
          | true =>
            obtain ⟨e1, e2⟩ := kEq_iff.1 h3
            exact absurd (Prod.ext e1 e2) h1
        rw [h2, if_neg Bool.false_ne_true]
        by_cases h4 : (s, f) ∈ r
        · rw [if_pos h4, if_pos (List.mem_cons_of_mem _ h4)]
        · rw [if_neg h4, if_neg (fun e => by rcases List.mem_cons.1 e with e | e; exact h1 e.symm; exact h4 e)]
  rw [key]
  by_cases h1 : (s, f) ∈ ks
  · rw [if_pos h1]
  · rw [if_neg h1]
    cases hl : look L s f with
    | none => rfl
    | some e =>
      obtain ⟨h2, h3, h4⟩ := look_mem hl
      exact absurd ((h.mem (s, f)).2 ⟨e, h2, by rw [h3, h4]⟩) h1
theorem colsP_ne {L : List Col} {ks : List Ky} (h : KeysOf L ks) (hL : ∀ x ∈ L, x.l ≠ []) : ∀ t ∈ colsP L ks, t.2.2 ≠ [] := fun t ht => by
  obtain ⟨k, hk, rfl⟩ := List.mem_map.1 ht
  obtain ⟨c, hc, rfl⟩ := (h.mem k).1 hk
  obtain ⟨d, hd⟩ := look_some hc
  show ptsOf (look L c.se c.fi) ≠ []
  rw [hd]
  exact hL d (look_mem hd).1
end Go.Proofs.Ytfhdaihladgchaa
