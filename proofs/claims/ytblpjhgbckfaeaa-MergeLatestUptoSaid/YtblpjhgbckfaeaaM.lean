/- The keys of Merge's table, as pairs of strings. No condition. -/
import Derived.Test.YtblpjhgbckfaeaaK
namespace Go.Proofs.Ytblpjhgbckfaeaa
open Go.RowKit Go.Sort Go.Maps
theorem has_ent (L : List TE) (x : List UInt8) : has (DataW.map (L.map entT)) (.string x) = true ↔ ∃ c ∈ L, kB c.se c.fi = x := by
  rw [has_eq, List.any_eq_true]
  constructor
  · rintro ⟨p, hp, hs⟩
    obtain ⟨c, hc, rfl⟩ := List.mem_map.1 hp
    refine ⟨c, hc, ?_⟩
    have : (Lit.string (kB c.se c.fi)).sameKey (.string x) = true := hs
    simpa [Lit.sameKey] using this
  · rintro ⟨c, hc, rfl⟩
    refine ⟨entT c, List.mem_map.2 ⟨c, hc, rfl⟩, ?_⟩
    show (Lit.string (kB c.se c.fi)).sameKey (.string (kB c.se c.fi)) = true
    simp [Lit.sameKey]
theorem decode {L : List TE} (hL : ∀ x ∈ L, x.se.size ≤ maxLen ∧ x.fi.size ≤ maxLen) : ∀ ss : List (List UInt8), (∀ x ∈ ss, ∃ c ∈ L, kB c.se c.fi = x) → ∃ ks : List Ky, ss = ks.map (fun k => kB k.1 k.2) ∧ keyC ss = ks.flatMap encP ∧ ∀ k ∈ ks, ∃ c ∈ L, k = (c.se, c.fi)
  | [], _ => ⟨[], rfl, rfl, fun k hk => by cases hk⟩
  | x :: r, h => by
    obtain ⟨c, hc, rfl⟩ := h x (by simp)
    obtain ⟨ks, h1, h2, h3⟩ := decode hL r fun y hy => h y (by simp [hy])
    refine ⟨(c.se, c.fi) :: ks, by rw [List.map_cons, ← h1], ?_, fun k hk => ?_⟩
    · have h4 : keyC (kB c.se c.fi :: r) = cellsK (kB c.se c.fi) ++ keyC r := rfl
      rw [h4, h2, cellsK_of (encK_of (hL c hc).1 (hL c hc).2)]; rfl
    · rcases List.mem_cons.1 hk with rfl | hk
      · exact ⟨c, hc, rfl⟩
      · exact h3 k hk
/-- The map's keys, each once. -/
structure KeysOf (L : List TE) (ks : List Ky) : Prop where
  nodup : ks.Nodup
  mem : ∀ k, k ∈ ks ↔ ∃ c ∈ L, k = (c.se, c.fi)
theorem keysOf_all {L : List TE} (hL : ∀ x ∈ L, x.se.size ≤ maxLen ∧ x.fi.size ≤ maxLen) {ss : List (List UInt8)} (h : AllK (DataW.map (L.map entT)) ss) : ∃ ks : List Ky, KeysOf L ks ∧ keyC ss = ks.flatMap encP ∧ ss.length = ks.length := by
  obtain ⟨ks, h1, h2, h3⟩ := decode hL ss fun x hx => (has_ent L x).1 ((h.2 x).1 hx)
  refine ⟨ks, ⟨?_, fun k => ⟨h3 k, ?_⟩⟩, h2, by rw [h1, List.length_map]⟩
  · have := h.1
    rw [h1] at this
    exact List.Pairwise.of_map (f := fun k : Ky => kB k.1 k.2) (fun a b hab e => hab (by rw [e])) this
  · rintro ⟨c, hc, rfl⟩
    have h4 := (h.2 (kB c.se c.fi)).2 ((has_ent L _).2 ⟨c, hc, rfl⟩)
    rw [h1] at h4
    obtain ⟨k, hk, he⟩ := List.mem_map.1 h4
    obtain ⟨c', hc', rfl⟩ := h3 k hk
    obtain ⟨e1, e2⟩ := kL_eq (hL c' hc').1 (hL c' hc').2 (hL c hc).1 (hL c hc).2 (by rw [kL_kB, kL_kB, he])
    rw [← e1, ← e2]; exact hk
theorem kLt_ntrans {a b c d e f : ByteArray} (h1 : kLt a b c d = false) (h2 : kLt c d e f = false) : kLt a b e f = false := by
  cases h : kLt a b e f with
  | false => rfl
  | true =>
    cases h3 : kEq a b c d with
    | true =>
      obtain ⟨e1, e2⟩ := kEq_iff.1 h3
      rw [← e1, ← e2, h] at h2; cases h2
    | false => rw [kLt_trans (kLt_tri h1 h3) h] at h2; cases h2
theorem encP_len (x : Ky) : (encP x).length = 2 := rfl
instance : Inhabited Ky := ⟨(⟨#[]⟩, ⟨#[]⟩)⟩
theorem flat_get : ∀ (ks : List Ky) (j : Nat), j < ks.length * 2 → (ks.flatMap encP)[j]? = (encP (ks.toArray)[j / 2]!)[j % 2]?
  | [], j, h => by simp at h
  | k :: r, j, h => by
    rw [List.flatMap_cons]
    match j, h with
    | 0, _ => rfl
    | 1, _ => rfl
    | j + 2, h =>
      rw [List.getElem?_append_right (by rw [encP_len]; omega), encP_len, show j + 2 - 2 = j by omega, flat_get r j (by simp at h; omega), show (j + 2) / 2 = j / 2 + 1 by omega, show (j + 2) % 2 = j % 2 by omega]
      simp
theorem flat_len (ks : List Ky) : (ks.flatMap encP).length = ks.length * 2 := by
  induction ks with
  | nil => rfl
  | cons k r ih => rw [List.flatMap_cons, List.length_append, ih, encP_len, List.length_cons]; omega
theorem keysOf_perm {L : List TE} {ks ts : List Ky} (h : KeysOf L ks) (hp : ts.Perm ks) : KeysOf L ts := ⟨hp.nodup_iff.2 h.nodup, fun k => hp.mem_iff.trans (h.mem k)⟩
def SortedKs (ts : List Ky) : Prop := ts.Pairwise fun a b => kLt a.1 a.2 b.1 b.2 = true
theorem nodup_len {α : Type} [DecidableEq α] : ∀ (a b : List α), a.Nodup → (∀ x ∈ a, x ∈ b) → a.length ≤ b.length
  | [], _, _, _ => Nat.zero_le _
  | x :: r, b, h, hs => by
    have hx := hs x (by simp)
    have h2 := nodup_len r (b.erase x) (List.nodup_cons.1 h).2 fun y hy => (List.mem_erase_of_ne (show y ≠ x from fun e => (List.nodup_cons.1 h).1 (e ▸ hy))).2 (hs y (by simp [hy]))
    rw [List.length_erase_of_mem hx] at h2
    have : 0 < b.length := List.length_pos_of_mem hx
    simp only [List.length_cons]
    omega
theorem KeysOf.len {L : List TE} {ks : List Ky} (h : KeysOf L ks) : ks.length ≤ L.length := by
  have := nodup_len ks (L.map fun c => (c.se, c.fi)) h.nodup fun x hx => by
    obtain ⟨c, hc, rfl⟩ := (h.mem x).1 hx
    exact List.mem_map_of_mem hc
  simpa using this
end Go.Proofs.Ytblpjhgbckfaeaa
