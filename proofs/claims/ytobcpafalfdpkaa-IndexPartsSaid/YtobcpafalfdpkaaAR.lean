/- A tag by its key: the program's way and the table's. No condition. -/
import Derived.Test.YtobcpafalfdpkaaAQ
namespace Go.Proofs.Ytobcpafalfdpkaa
open Go.RowKit Go.WideMaps Go.Sort
theorem tg_snd (s : Sr) (key : BA) : (s.tg key).2 = (get s.tags key).isSome := by
  have h1 : (s.tg key).2 = (findB s.tags.length s.kf key).isSome := by
    unfold Sr.tg tagB
    cases findB s.tags.length s.kf key <;> rfl
  rw [h1, Bool.eq_iff_iff, get_isSome]
  unfold findB
  rw [List.find?_isSome]
  constructor
  · rintro ⟨i, hi, hk⟩
    have hi' : i < s.tags.length := by simpa using hi
    obtain ⟨a1, _⟩ := kf_get (List.getElem?_eq_getElem hi')
    refine List.mem_map.2 ⟨s.tags[i], List.getElem_mem hi', ?_⟩
    rw [← a1]
    exact ba_eq (by simpa [keyAt, ByteArray.toList_eq] using hk)
  · intro h
    obtain ⟨p, hp, e⟩ := List.mem_map.1 h
    obtain ⟨i, hi, e2⟩ := List.mem_iff_getElem.1 hp
    obtain ⟨a1, _⟩ := kf_get (List.getElem?_eq_getElem hi)
    refine ⟨i, by simpa using hi, ?_⟩
    rw [e2, e] at a1
    simp [keyAt, a1]
theorem noTag_iff (key : BA) (p : BA × SV) : noTag key p = (tagOf key p).isNone := by
  unfold noTag tagOf
  rw [tg_snd]
  cases get p.2.sr.tags key <;> rfl
theorem find_range {α : Type} (p : α → Bool) : ∀ (T : List α) (d : α) (o : Nat) (f : Nat → α), (∀ i, i < T.length → f (o + i) = T.getD i d) → ((List.range' o T.length).find? fun i => p (f i)).map f = T.find? p
  | [], _, _, _, _ => rfl
  | x :: r, d, o, f, h => by
    have h0 := h 0 (by simp)
    simp only [Nat.add_zero] at h0
    have h0' : f o = x := by rw [h0]; rfl
    rw [List.length_cons, List.range'_succ, List.find?_cons, List.find?_cons, h0']
    cases hp : p x with
    | true => simp [h0']
    | false =>
      simp only
      exact find_range p r d (o + 1) f fun i hi => by
        rw [show o + 1 + i = o + (i + 1) by omega, h (i + 1) (by simp; omega)]
        rfl
theorem tg_get (s : Sr) (key : BA) : s.tg key = ((get s.tags key).getD ba0, (get s.tags key).isSome) := by
  have hf := find_range (ofKey key) s.tags (ba0, ba0) 0 (fun i => (s.kf i, s.vf i)) fun i _ => by rw [Nat.zero_add]; rfl
  have hk : (fun i => ofKey key (s.kf i, s.vf i)) = keyAt s.kf key := by
    funext i
    unfold ofKey keyAt
    rw [Bool.eq_iff_iff, decide_eq_true_eq, beq_iff_eq]
    show s.kf i = key ↔ _
    rw [ByteArray.toList_eq, ByteArray.toList_eq]
    exact ⟨fun h => by rw [h], ba_eq⟩
  have hf2 : (findB s.tags.length s.kf key).map (fun i => (s.kf i, s.vf i)) = s.tags.find? (ofKey key) := by
    rw [← hf]
    unfold findB
    rw [hk, List.range_eq_range']
  unfold Sr.tg tagB get
  rw [← hf2]
  cases findB s.tags.length s.kf key <;> rfl
end Go.Proofs.Ytobcpafalfdpkaa
