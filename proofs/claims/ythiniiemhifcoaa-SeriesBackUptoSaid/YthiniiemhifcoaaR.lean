/- A text that was printed is parsed as it was, and what is parsed has that text: the plain law. No condition. -/
import Derived.Test.YthiniiemhifcoaaQ
namespace Go.Proofs.Ythiniiemhifcoaa
open Go.RowKit Go.Sort
theorem scan_esc_all : ∀ (l x acc : List UInt8), Stop x → scan acc (esc l ++ x) = some (acc ++ l, x)
  | [], x, acc, h => by
    rcases h with rfl | ⟨c, r, rfl, hc⟩
    · simp [esc, scan]
    · rcases hc with rfl | rfl
      · simpa [esc] using scan_stop acc 44 r (by decide) spec44
      · simpa [esc] using scan_stop acc 61 r (by decide) spec61
  | c :: l, x, acc, h => by
    rw [esc_cons]
    have ih := scan_esc_all l x (acc ++ [c]) h
    unfold esc1
    cases hs : spec c with
    | true =>
      simp only [if_true, List.cons_append, List.nil_append]
      rw [scan_esc _ _ _ _ (by decide) hs, ih]
      simp
    | false =>
      simp only [Bool.false_eq_true, if_false, List.cons_append, List.nil_append]
      rw [scan_plain _ _ _ (fun h92 => by have : c = 92 := UInt8.toNat_inj.1 h92; rw [this, spec92] at hs; cases hs) hs, ih]
      simp
abbrev Tl := List UInt8 × List UInt8
def mk (p : Tl) : Tg := (ofL p.1, ofL p.2)
def lk (p : Tg) : Tl := (p.1.data.toList, p.2.data.toList)
theorem ploop_encT : ∀ (T : List Tl) (acc : List Tg), ploop acc (encT T) = some (acc ++ T.map mk, [])
  | [], acc => by simpa [encT] using ploop_end acc
  | p :: T, acc => by
    rw [encT_cons]
    have h1 := scan_esc_all p.1 (61 :: (esc p.2 ++ encT T)) [] (.inr ⟨61, _, rfl, .inr rfl⟩)
    have h2 := scan_esc_all p.2 (encT T) [] (encT_stop T)
    rw [ploop_step acc 44 61 _ _ _ _ _ rfl h1 rfl h2, ploop_encT T]
    simp [mk]
theorem esc_app (a b : List UInt8) : esc (a ++ b) = esc a ++ esc b := by simp [esc]
theorem encT_app (a b : List Tl) : encT (a ++ b) = encT a ++ encT b := by simp [encT]
theorem scan_inv : ∀ (n : Nat) {acc l b r : List UInt8}, l.length ≤ n → scan acc l = some (b, r) → esc acc ++ l = esc b ++ r
  | n, acc, [], b, r, _, h => by
    simp [scan] at h
    obtain ⟨rfl, rfl⟩ := h
    rfl
  | 0, acc, c :: l, b, r, hn, h => by simp at hn
  | n + 1, acc, c :: l, b, r, hn, h => by
    by_cases h92 : c.toNat = 92
    · cases l with
      | nil => rw [scan_end _ _ h92] at h; cases h
      | cons d l =>
        cases hs : spec d with
        | true =>
          rw [scan_esc _ _ _ _ h92 hs] at h
          have ih := scan_inv n (by simp at hn; omega) h
          rw [← ih, esc_app]
          have hc : c = 92 := UInt8.toNat_inj.1 h92
          simp [esc, esc1, hs, hc]
        | false => rw [scan_bad _ _ _ _ h92 hs] at h; cases h
    · cases hs : spec c with
      | true =>
        rw [scan_stop _ _ _ h92 hs] at h
        simp at h
        obtain ⟨rfl, rfl⟩ := h
        rfl
      | false =>
        rw [scan_plain _ _ _ h92 hs] at h
        have ih := scan_inv n (by simp at hn; omega) h
        rw [← ih, esc_app]
        simp [esc, esc1, hs]
theorem lk_mk (k v : List UInt8) : lk (ofL k, ofL v) = (k, v) := by simp [lk, ofL]
theorem ploop_inv : ∀ (n : Nat) {acc tags : List Tg} {r : List UInt8}, r.length ≤ n → ploop acc r = some (tags, []) → encT (acc.map lk) ++ r = encT (tags.map lk) := by
  intro n
  induction n with
  | zero =>
    intro acc tags r hn h
    have : r = [] := List.eq_nil_of_length_eq_zero (by omega)
    subst this
    rw [ploop_end] at h
    cases h
    simp
  | succ n ih =>
    intro acc tags r hn h
    cases r with
    | nil => rw [ploop_end] at h; cases h; simp
    | cons c r =>
      by_cases h44 : c.toNat = 44
      · cases hk : scan [] r with
        | none => rw [ploop_key_none _ _ _ h44 hk] at h; cases h
        | some p =>
          obtain ⟨kb, q⟩ := p
          cases q with
          | nil => rw [ploop_key_end _ _ _ _ h44 hk] at h; cases h
          | cons e r2 =>
            by_cases h61 : e.toNat = 61
            · cases hv : scan [] r2 with
              | none => rw [ploop_val_none _ _ _ _ _ _ h44 hk h61 hv] at h; cases h
              | some p =>
                obtain ⟨vb, r3⟩ := p
                rw [ploop_step _ _ _ _ _ _ _ _ h44 hk h61 hv] at h
                have a1 := (scan_len _ (Nat.le_refl _) hk).1
                have a2 := (scan_len _ (Nat.le_refl _) hv).1
                simp at a1 hn
                have i1 := ih (by omega) h
                have e1 := scan_inv _ (Nat.le_refl _) hk
                have e2 := scan_inv _ (Nat.le_refl _) hv
                have hc : c = 44 := UInt8.toNat_inj.1 h44
                have he : e = 61 := UInt8.toNat_inj.1 h61
                rw [← i1, List.map_append, encT_app]
                simp only [esc, List.flatMap_nil, List.nil_append] at e1 e2
                rw [hc, e1, he, e2]
                simp [encT, lk_mk, esc]
            · rw [ploop_key_ne _ _ _ _ _ _ h44 hk h61] at h; cases h
      · rw [ploop_stop _ _ _ h44] at h; cases h
theorem formedB_congr {name : ByteArray} {n : Nat} {kf vf kg vg : Nat → ByteArray} (h : ∀ i, i < n → kf i = kg i ∧ vf i = vg i) : formedB name n kf vf = formedB name n kg vg := by
  unfold formedB
  have e : (List.range n).all (stepOk kf vf) = (List.range n).all (stepOk kg vg) := by
    rw [Bool.eq_iff_iff, List.all_eq_true, List.all_eq_true]
    have hs : ∀ i ∈ List.range n, stepOk kf vf i = stepOk kg vg i := by
      intro i hi
      have hi : i < n := by simpa using hi
      unfold stepOk
      rw [(h i hi).1, (h i hi).2, (h (i - 1) (by omega)).1]
    exact ⟨fun g i hi => by rw [← hs i hi]; exact g i hi, fun g i hi => by rw [hs i hi]; exact g i hi⟩
  rw [e]
theorem kOf_get {L : List Tg} {i : Nat} (h : i < L.length) : kOf L i = L[i].1 ∧ vOf L i = L[i].2 := by simp [kOf, vOf, List.getD, h]
theorem tagsL_of (tags : List Tg) : tagsL tags.length (kOf tags) (vOf tags) = tags.map lk := by
  refine List.ext_getElem (by simp [tagsL]) ?_
  intro i h1 h2
  have hi : i < tags.length := by simpa using h2
  simp [tagsL, lk, (kOf_get hi).1, (kOf_get hi).2]
theorem parse_some {t : List UInt8} {name : ByteArray} {tags : List Tg} (h : parse t = some (name, tags)) : formedB name tags.length (kOf tags) (vOf tags) = true ∧ textTo name (kOf tags) (vOf tags) tags.length = t := by
  unfold parse at h
  cases hs : scan [] t with
  | none => rw [hs] at h; cases h
  | some p =>
    obtain ⟨n, r⟩ := p
    rw [hs] at h
    simp only at h
    cases hp : ploop [] r with
    | none => rw [hp] at h; cases h
    | some q =>
      obtain ⟨tg, r'⟩ := q
      rw [hp] at h
      cases r' with
      | cons c r' => cases h
      | nil =>
        simp only [fin] at h
        split at h
        · rename_i hf
          cases h
          refine ⟨hf, ?_⟩
          rw [textTo_enc, tagsL_of]
          have e1 := scan_inv _ (Nat.le_refl _) hs
          have e2 := ploop_inv _ (Nat.le_refl _) hp
          simp only [List.map_nil, esc, List.flatMap_nil, List.nil_append] at e1 e2
          rw [show encT [] = [] from rfl, List.nil_append] at e2
          rw [← e2]
          simp [ofL, e1, esc]
        · cases h
theorem parse_text {name : ByteArray} {n : Nat} {kf vf : Nat → ByteArray} (h : formedB name n kf vf = true) : ∃ tags : List Tg, parse (textTo name kf vf n) = some (name, tags) ∧ tags.length = n ∧ ∀ i, i < n → kOf tags i = kf i ∧ vOf tags i = vf i := by
  have hl : ((tagsL n kf vf).map mk).length = n := by simp [tagsL]
  have hg : ∀ i, i < n → kOf ((tagsL n kf vf).map mk) i = kf i ∧ vOf ((tagsL n kf vf).map mk) i = vf i := by
    intro i hi
    obtain ⟨e1, e2⟩ := kOf_get (L := (tagsL n kf vf).map mk) (i := i) (by rw [hl]; exact hi)
    rw [e1, e2]
    simp [tagsL, mk, ofL]
  refine ⟨(tagsL n kf vf).map mk, ?_, hl, hg⟩
  rw [textTo_enc]
  unfold parse
  rw [scan_esc_all _ _ _ (encT_stop _)]
  simp only [List.nil_append]
  rw [ploop_encT]
  simp only [List.nil_append, fin]
  rw [hl, formedB_congr hg]
  simp only [ofL_toList, h, if_true]
def rName (o : Option (ByteArray × List Tg)) : ByteArray := match o with | some p => p.1 | none => ⟨#[]⟩
def rTags (o : Option (ByteArray × List Tg)) : List Tg := match o with | some p => p.2 | none => []
def rErr (o : Option (ByteArray × List Tg)) : Int := match o with | some _ => 0 | none => 2
theorem parsePost_cases {o : Option (ByteArray × List Tg)} {w : World} {e : Ending} {w' : World} (h : ParsePost o w e w') : ∃ a cap, e = .returned (.tuple #[.agg #[.string (rName o), .slice a (rTags o).length cap], .int .i64 (rErr o)]) ∧
    TagsAt w' a (rTags o).length (kOf (rTags o)) (vOf (rTags o)) ∧ Below w.heap.size w w' := by
  obtain ⟨hb, h⟩ := h
  cases o with
  | none => exact ⟨none, 0, h, fun i hi => absurd hi (by simp [rTags]), hb⟩
  | some p =>
    obtain ⟨name, tags⟩ := p
    obtain ⟨a, cap, he, ht⟩ := h
    exact ⟨a, cap, he, ht, hb⟩
theorem rTags_le (t : List UInt8) : (rTags (parse t)).length ≤ 8 := by
  cases hp : parse t with
  | none => simp [rTags]
  | some p =>
    obtain ⟨name, tags⟩ := p
    exact (formed_parts (parse_some hp).1).2.1
theorem sameB_of {na nb : ByteArray} {n m : Nat} {kf vf kg vg : Nat → ByteArray} (h : na = nb) (hn : n = m) (hk : ∀ i, i < n → kf i = kg i ∧ vf i = vg i) : sameB na nb n m kf vf kg vg = true := by
  subst h hn
  simp only [sameB, Bool.and_eq_true, beq_iff_eq, decide_eq_true_eq, List.all_eq_true]
  refine ⟨trivial, trivial, fun i hi => ?_⟩
  obtain ⟨e1, e2⟩ := hk i (by simpa using hi)
  simp [tagEq, e1, e2]
end Go.Proofs.Ythiniiemhifcoaa
