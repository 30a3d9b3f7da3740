/- A table parted by a mark: the parts add up. No condition. -/
import Derived.Test.YtobcpafalfdpkaaAK
namespace Go.Proofs.Ytobcpafalfdpkaa
open Go.RowKit Go.WideMaps Go.Sort
theorem sum_one {β : Type} [DecidableEq β] (b : β) : ∀ V : List β, V.Nodup → b ∈ V → (V.map fun v => if b = v then 1 else 0).sum = 1
  | [], _, h => nomatch h
  | v :: V, hn, h => by
    rw [List.nodup_cons] at hn
    simp only [List.map_cons, List.sum_cons]
    by_cases e : b = v
    · subst e
      rw [if_pos rfl]
      have : (V.map fun v => if b = v then 1 else 0).sum = 0 := by
        have hz : (V.map fun v => if b = v then 1 else 0) = V.map fun _ => 0 := List.map_congr_left fun v hv => if_neg fun (e : b = v) => hn.1 (by rw [e]; exact hv)
        rw [hz]
        clear hz hn h
        induction V with
        | nil => rfl
        | cons _ _ ih => simpa using ih
      omega
    · rw [if_neg e, sum_one b V hn.2 ((List.mem_cons.1 h).resolve_left e)]
theorem sum_add {β : Type} (f g : β → Nat) : ∀ V : List β, (V.map fun v => f v + g v).sum = (V.map f).sum + (V.map g).sum
  | [] => rfl
  | v :: V => by simp only [List.map_cons, List.sum_cons, sum_add f g V]; omega
theorem sum_zero {β : Type} : ∀ V : List β, (V.map fun _ => 0).sum = 0
  | [] => rfl
  | v :: V => by simp only [List.map_cons, List.sum_cons, sum_zero V]
theorem parts_sum {α β : Type} [DecidableEq β] (f : α → Option β) (V : List β) (hV : V.Nodup) : ∀ L : List α, (∀ a ∈ L, ∀ b, f a = some b → b ∈ V) →
    L.length = (L.filter fun a => (f a).isNone).length + (V.map fun v => (L.filter fun a => decide (f a = some v)).length).sum
  | [], _ => by simp [sum_zero]
  | a :: L, h => by
    have ih := parts_sum f V hV L fun x hx => h x (List.mem_cons_of_mem _ hx)
    cases hf : f a with
    | none =>
      have e1 : ∀ v, ((a :: L).filter fun a => decide (f a = some v)) = L.filter fun a => decide (f a = some v) := fun v => by simp [hf]
      simp only [e1, List.length_cons]
      rw [List.filter_cons, if_pos (by simp [hf]), List.length_cons]
      omega
    | some b =>
      have e1 : ∀ v, ((a :: L).filter fun a => decide (f a = some v)).length = (if b = v then 1 else 0) + (L.filter fun a => decide (f a = some v)).length := fun v => by
        by_cases e : b = v
        · subst e; simp [hf]; omega
        · have : ¬ (some b = some v) := fun h => e (Option.some.inj h)
          simp [hf, e]
      simp only [e1, List.length_cons]
      rw [sum_add, sum_one b V hV (h a (List.mem_cons_self ..) b hf), List.filter_cons, if_neg (by simp [hf])]
      omega
end Go.Proofs.Ytobcpafalfdpkaa
/- The texts of a tag are the series that hold it. No condition. -/
namespace Go.Proofs.Ytobcpafalfdpkaa
open Go.RowKit Go.WideMaps Go.Sort
def tagOf (k : BA) (p : BA × SV) : Option BA := get p.2.sr.tags k
theorem tagOf_iff {k v : BA} {p : BA × SV} (h : p.2.sr.ok = true) : tagOf k p = some v ↔ (k, v) ∈ p.2.sr.tags := ⟨fun h1 => get_some h1, fun h1 => rising_get (ok_rising h) h1⟩
theorem get_isSome {α : Type} {L : List (BA × α)} {t : BA} : (get L t).isSome = true ↔ t ∈ L.map (·.1) := by
  constructor
  · intro h
    obtain ⟨a, ha⟩ := Option.isSome_iff_exists.1 h
    exact List.mem_map.2 ⟨_, get_some ha, rfl⟩
  · intro h
    obtain ⟨p, hp, e⟩ := List.mem_map.1 h
    cases hg : get L t with
    | some a => rfl
    | none => exact absurd e (get_none hg p hp)
theorem texts_keys {nm : BA} {μ : Me} (h : MeOk nm μ) (hr : RisingK μ.ss) {k v : BA} (hx : RisingK (textsOf μ k v)) : (textsOf μ k v).map (·.1) = (μ.ss.filter fun p => decide (tagOf k p = some v)).map (·.1) := by
  refine sorted_unique (r := sLt) sLt_irr (fun _ _ _ => sLt_tr) (List.pairwise_map.2 hx) (List.pairwise_map.2 (List.Pairwise.filter _ hr)) fun t => ?_
  rw [← get_isSome, List.mem_map]
  show At μ k v t ↔ _
  rw [h.at_]
  constructor
  · rintro ⟨sv, h1, h2⟩
    have hm := get_some h1
    exact ⟨_, List.mem_filter.2 ⟨hm, by rw [decide_eq_true_eq]; exact (tagOf_iff (h.ser _ hm).1).2 h2⟩, rfl⟩
  · rintro ⟨p, hp, rfl⟩
    obtain ⟨hm, hd⟩ := List.mem_filter.1 hp
    rw [decide_eq_true_eq] at hd
    exact ⟨p.2, rising_get hr hm, (tagOf_iff (h.ser _ hm).1).1 hd⟩
theorem texts_len {nm : BA} {μ : Me} (h : MeOk nm μ) (hr : RisingK μ.ss) {k v : BA} (hx : RisingK (textsOf μ k v)) : (textsOf μ k v).length = (μ.ss.filter fun p => decide (tagOf k p = some v)).length := by
  have := congrArg List.length (texts_keys h hr hx)
  simpa using this
end Go.Proofs.Ytobcpafalfdpkaa
/- A tag's values are those of the series; none is empty; the parts of a name. No condition. -/
namespace Go.Proofs.Ytobcpafalfdpkaa
open Go.RowKit Go.WideMaps Go.Sort
theorem vals_has {nm : BA} {μ : Me} (h : MeOk nm μ) (hr : RisingK μ.ss) {k v : BA} {p : BA × SV} (hp : p ∈ μ.ss) (ht : tagOf k p = some v) : v ∈ (valsOf μ k).map (·.1) := by
  have hat : At μ k v p.1 := (h.at_ _ _ _).2 ⟨p.2, rising_get hr hp, (tagOf_iff (h.ser _ hp).1).1 ht⟩
  obtain ⟨kb, vb, h1, h2, _⟩ := at_open hat
  rw [vals_some h1]
  exact List.mem_map.2 ⟨_, get_some h2, rfl⟩
theorem parts_all {nm : BA} {μ : Me} (h : MeOk nm μ) (hr : RisingK μ.ss) (k : BA) (hv : RisingK (valsOf μ k)) (hx : ∀ v, RisingK (textsOf μ k v)) :
    μ.ss.length = (μ.ss.filter fun p => (tagOf k p).isNone).length + (((valsOf μ k).map (·.1)).map fun v => (textsOf μ k v).length).sum := by
  have hn : ((valsOf μ k).map (·.1)).Nodup := by
    unfold List.Nodup
    refine List.Pairwise.imp (R := sLt) ?_ (List.pairwise_map.2 hv)
    intro a b hl e
    rw [e] at hl
    exact sLt_irr _ hl
  rw [parts_sum (tagOf k) _ hn μ.ss fun p hp v ht => vals_has h hr hp ht]
  simp only [texts_len h hr (hx _)]
end Go.Proofs.Ytobcpafalfdpkaa
/- A tag by its key: the program's way and the table's. No condition. -/
namespace Go.Proofs.Ytobcpafalfdpkaa
open Go.RowKit Go.WideMaps Go.Sort
theorem tg_snd (s : Sr) (key : BA) : (s.tg key).2 = (get s.tags key).isSome := by
  have h1 : (s.tg key).2 = (findB s.tags.length s.kf key).isSome := by
    unfold Sr.tg tagB
    cases findB s.tags.length s.kf key <;> rfl
  rw [h1, Bool.eq_iff_iff, get_isSome]
  unfold findB
  rw [List.find?_isSome]
  constructor
  · rintro ⟨i, hi, hk⟩
    have hi' : i < s.tags.length := by simpa using hi
    obtain ⟨a1, _⟩ := kf_get (List.getElem?_eq_getElem hi')
    refine List.mem_map.2 ⟨s.tags[i], List.getElem_mem hi', ?_⟩
    rw [← a1]
    exact ba_eq (by simpa [keyAt, ByteArray.toList_eq] using hk)
  · intro h
    obtain ⟨p, hp, e⟩ := List.mem_map.1 h
    obtain ⟨i, hi, e2⟩ := List.mem_iff_getElem.1 hp
    obtain ⟨a1, _⟩ := kf_get (List.getElem?_eq_getElem hi)
    refine ⟨i, by simpa using hi, ?_⟩
    rw [e2, e] at a1
    simp [keyAt, a1]
theorem noTag_iff (key : BA) (p : BA × SV) : noTag key p = (tagOf key p).isNone := by
  unfold noTag tagOf
  rw [tg_snd]
  cases get p.2.sr.tags key <;> rfl
theorem find_range {α : Type} (p : α → Bool) : ∀ (T : List α) (d : α) (o : Nat) (f : Nat → α), (∀ i, i < T.length → f (o + i) = T.getD i d) → ((List.range' o T.length).find? fun i => p (f i)).map f = T.find? p
  | [], _, _, _, _ => rfl
  | x :: r, d, o, f, h => by
    have h0 := h 0 (by simp)
    simp only [Nat.add_zero] at h0
    have h0' : f o = x := by rw [h0]; rfl
    rw [List.length_cons, List.range'_succ, List.find?_cons, List.find?_cons, h0']
    cases hp : p x with
    | true => simp [h0']
    | false =>
      simp only
      exact find_range p r d (o + 1) f fun i hi => by
        rw [show o + 1 + i = o + (i + 1) by omega, h (i + 1) (by simp; omega)]
        rfl
theorem tg_get (s : Sr) (key : BA) : s.tg key = ((get s.tags key).getD ba0, (get s.tags key).isSome) := by
  have hf := find_range (ofKey key) s.tags (ba0, ba0) 0 (fun i => (s.kf i, s.vf i)) fun i _ => by rw [Nat.zero_add]; rfl
  have hk : (fun i => ofKey key (s.kf i, s.vf i)) = keyAt s.kf key := by
    funext i
    unfold ofKey keyAt
    rw [Bool.eq_iff_iff, decide_eq_true_eq, beq_iff_eq]
    show s.kf i = key ↔ _
    rw [ByteArray.toList_eq, ByteArray.toList_eq]
    exact ⟨fun h => by rw [h], ba_eq⟩
  have hf2 : (findB s.tags.length s.kf key).map (fun i => (s.kf i, s.vf i)) = s.tags.find? (ofKey key) := by
    rw [← hf]
    unfold findB
    rw [hk, List.range_eq_range']
  unfold Sr.tg tagB get
  rw [← hf2]
  cases findB s.tags.length s.kf key <;> rfl
end Go.Proofs.Ytobcpafalfdpkaa
