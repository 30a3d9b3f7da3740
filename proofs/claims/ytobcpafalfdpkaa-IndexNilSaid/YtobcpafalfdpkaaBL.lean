/- The program's index and the document's hold the same: what follows of their answers. No condition. -/
import Derived.Test.YtobcpafalfdpkaaBI
import Derived.Test.YtobcpafalfdpkaaAS
import Derived.Test.YtobcpafalfdpkaaAK
namespace Go.Proofs.Ytobcpafalfdpkaa
open Go.RowKit Go.WideMaps Go.Sort
def pr (p : BA × SV) : BA × Sr := (p.1, p.2.sr)
/-- Both indexes hold the same series and kinds. -/
structure Like (L : List (BA × Nat)) (M : BA → Me) (E : List (BA × SV)) (K : List (BA × BA × Int)) : Prop where
  rise : RisingK E
  ser : ∀ p ∈ E, p.2.sr.ok = true ∧ p.2.sr.txt = p.1
  mem : ∀ t s, (t, s) ∈ E.map pr ↔ (t, s) ∈ (meOf L M s.name).ss.map pr
  kd : ∀ nm f, get (meOf L M nm).kd f = kindOf K nm f
section
variable {L : List (BA × Nat)} {M : BA → Me} {E : List (BA × SV)} {K : List (BA × BA × Int)}
theorem like_ss (h : Like L M E K) (hme : ∀ nm, MeOk nm (meOf L M nm)) (hr : ∀ nm, Rises (meOf L M nm)) (nm : BA) : (meOf L M nm).ss.map pr = (E.filter fun p => decide (p.2.sr.name = nm)).map pr := by
  refine rising_eq (List.pairwise_map.2 (hr nm).ss) (List.pairwise_map.2 (List.Pairwise.filter _ h.rise)) fun y => ?_
  obtain ⟨t, s⟩ := y
  constructor
  · intro hy
    obtain ⟨p, hp, e⟩ := List.mem_map.1 hy
    have hn : s.name = nm := by
      have h1 := ((hme nm).ser p hp).2.2
      unfold pr at e
      injection e with _ e2
      rw [← e2]; exact h1
    subst hn
    obtain ⟨q, hq, e2⟩ := List.mem_map.1 ((h.mem t s).2 hy)
    refine List.mem_map.2 ⟨q, List.mem_filter.2 ⟨hq, ?_⟩, e2⟩
    unfold pr at e2
    injection e2 with _ e3
    rw [decide_eq_true_eq, e3]
  · intro hy
    obtain ⟨q, hq, e2⟩ := List.mem_map.1 hy
    obtain ⟨hq1, hq2⟩ := List.mem_filter.1 hq
    rw [decide_eq_true_eq] at hq2
    have hn : s.name = nm := by
      unfold pr at e2
      injection e2 with _ e3
      rw [← e3]; exact hq2
    subst hn
    exact (h.mem t s).1 (List.mem_map.2 ⟨q, hq1, e2⟩)
theorem like_all (h : Like L M E K) (hme : ∀ nm, MeOk nm (meOf L M nm)) (hr : ∀ nm, Rises (meOf L M nm)) (nm : BA) : (meOf L M nm).ss.map (fun p => p.2.sr) = (rAll E nm).map (·.sr) := by
  have h1 := congrArg (List.map Prod.snd) (like_ss h hme hr nm)
  rw [List.map_map, List.map_map] at h1
  unfold rAll
  rw [List.map_map]
  exact h1
theorem like_len (h : Like L M E K) (hme : ∀ nm, MeOk nm (meOf L M nm)) (hr : ∀ nm, Rises (meOf L M nm)) (nm : BA) : (meOf L M nm).ss.length = (rAll E nm).length := by
  have := congrArg List.length (like_all h hme hr nm)
  simpa using this
theorem mem_sr {S : List (BA × SV)} {f : Sr → Prop} : (∃ p ∈ S, f p.2.sr) ↔ ∃ s ∈ S.map (fun p => p.2.sr), f s := by
  constructor
  · rintro ⟨p, hp, hf⟩; exact ⟨_, List.mem_map_of_mem hp, hf⟩
  · rintro ⟨s, hs, hf⟩
    obtain ⟨p, hp, rfl⟩ := List.mem_map.1 hs
    exact ⟨p, hp, hf⟩
theorem mem_rAll {f : Sr → Prop} (R : List SV) : (∃ s ∈ R, f s.sr) ↔ ∃ s ∈ R.map (·.sr), f s := by
  constructor
  · rintro ⟨p, hp, hf⟩; exact ⟨_, List.mem_map_of_mem hp, hf⟩
  · rintro ⟨s, hs, hf⟩
    obtain ⟨p, hp, rfl⟩ := List.mem_map.1 hs
    exact ⟨p, hp, hf⟩
theorem like_ex (h : Like L M E K) (hme : ∀ nm, MeOk nm (meOf L M nm)) (hr : ∀ nm, Rises (meOf L M nm)) (nm : BA) (f : Sr → Prop) : (∃ p ∈ (meOf L M nm).ss, f p.2.sr) ↔ ∃ s ∈ rAll E nm, f s.sr := by
  rw [mem_sr, mem_rAll, like_all h hme hr nm]
theorem str_unique {A B : List BA} (hA : A.Pairwise sLt) (hB : B.Pairwise sLt) (h : ∀ t, t ∈ A ↔ t ∈ B) : A = B := sorted_unique (r := sLt) sLt_irr (fun _ _ _ => sLt_tr) hA hB h
theorem like_names (h : Like L M E K) (hme : ∀ nm, MeOk nm (meOf L M nm)) (hL : RisingK L) {U : List BA} (hU : U.Pairwise sLt) (hm : ∀ t, t ∈ U ↔ ∃ p ∈ E, p.2.sr.name = t) : namesOf L M = U := by
  refine str_unique (pick_rising hL _) hU fun t => ?_
  rw [hm]
  unfold namesOf pickK
  constructor
  · intro ht
    obtain ⟨p, hp, rfl⟩ := List.mem_map.1 ht
    obtain ⟨h1, h2⟩ := List.mem_filter.1 hp
    unfold namePr at h2
    rw [decide_eq_true_eq] at h2
    obtain ⟨q, hq⟩ := List.exists_mem_of_length_pos h2
    have hmo : meOf L M p.1 = M p.1 := by unfold meOf; rw [rising_get hL h1]
    rw [← hmo] at hq
    have hn := ((hme p.1).ser q hq).2.2
    have h3 := (h.mem q.1 q.2.sr).2 (by rw [hn]; exact List.mem_map.2 ⟨q, hq, rfl⟩)
    obtain ⟨r, hr, e⟩ := List.mem_map.1 h3
    unfold pr at e
    injection e with _ e2
    exact ⟨r, hr, by rw [e2]; exact hn⟩
  · rintro ⟨q, hq, rfl⟩
    have h1 := (h.mem q.1 q.2.sr).1 (List.mem_map.2 ⟨q, hq, rfl⟩)
    obtain ⟨p, hp, _⟩ := List.mem_map.1 h1
    unfold meOf at hp
    cases hg : get L q.2.sr.name with
    | none => rw [hg] at hp; cases hp
    | some b =>
      rw [hg] at hp
      refine List.mem_map.2 ⟨(q.2.sr.name, b), List.mem_filter.2 ⟨get_some hg, ?_⟩, rfl⟩
      unfold namePr
      rw [decide_eq_true_eq]
      exact List.length_pos_of_mem hp
theorem full_some {nm : BA} {μ : Me} (hm : MeOk nm μ) (hr : Rises μ) {k : BA} (hk : k ∈ μ.A.map (·.1)) : ∃ p ∈ μ.ss, ∃ q ∈ p.2.sr.tags, q.1 = k := by
  obtain ⟨pa, hpa, rfl⟩ := List.mem_map.1 hk
  have hg := rising_get hr.A hpa
  have hV : valsOf μ pa.1 = μ.V pa.1 := by unfold valsOf; rw [hg]
  obtain ⟨pv, hpv⟩ := List.exists_mem_of_ne_nil _ (hm.full.1 pa hpa)
  obtain ⟨p, hp, e⟩ := vals_from hm (k := pa.1) (v := pv.1) (by rw [hV]; exact List.mem_map_of_mem hpv) (hr.V _) (hr.X _)
  exact ⟨p, hp, _, (tagOf_iff (hm.ser _ hp).1).1 e, rfl⟩
theorem like_keys (h : Like L M E K) (hme : ∀ nm, MeOk nm (meOf L M nm)) (hr : ∀ nm, Rises (meOf L M nm)) (nm : BA) {U : List BA} (hU : U.Pairwise sLt) (hm : ∀ t, t ∈ U ↔ ∃ s ∈ rAll E nm, ∃ p ∈ s.sr.tags, p.1 = t) : (meOf L M nm).A.map (·.1) = U := by
  refine str_unique (List.pairwise_map.2 (hr nm).A) hU fun t => ?_
  rw [hm, ← like_ex h hme hr nm fun s => ∃ p ∈ s.tags, p.1 = t]
  constructor
  · exact full_some (hme nm) (hr nm)
  · rintro ⟨p, hp, q, hq, rfl⟩
    obtain ⟨kb, vb, h1, _⟩ := at_open (((hme nm).at_ q.1 q.2 p.1).2 ⟨p.2, rising_get (hr nm).ss hp, hq⟩)
    exact List.mem_map.2 ⟨_, get_some h1, rfl⟩
theorem tg_of {s : Sr} {key v : BA} : s.tg key = (v, true) ↔ get s.tags key = some v := by
  rw [tg_get]
  cases get s.tags key with
  | none => simp
  | some u => simp
theorem like_values (h : Like L M E K) (hme : ∀ nm, MeOk nm (meOf L M nm)) (hr : ∀ nm, Rises (meOf L M nm)) (nm key : BA) {U : List BA} (hU : U.Pairwise sLt) (hm : ∀ t, t ∈ U ↔ ∃ s ∈ rAll E nm, s.sr.tg key = (t, true)) : (valsOf (meOf L M nm) key).map (·.1) = U := by
  refine str_unique (List.pairwise_map.2 ((hr nm).V key)) hU fun t => ?_
  rw [hm, ← like_ex h hme hr nm fun s => s.tg key = (t, true)]
  constructor
  · intro ht
    obtain ⟨p, hp, e⟩ := vals_from (hme nm) ht ((hr nm).V key) ((hr nm).X key)
    exact ⟨p, hp, tg_of.2 e⟩
  · rintro ⟨p, hp, e⟩
    exact vals_has (hme nm) (hr nm).ss hp (tg_of.1 e)
theorem withT_keys {nm : BA} {μ : Me} (hm : MeOk nm μ) (hr : Rises μ) (key val : BA) : withT μ key val = (μ.ss.filter fun p => decide ((p.2.sr.tg key).1 = val)).map (·.1) := by
  unfold withT
  by_cases hv : val = ⟨#[]⟩
  · rw [if_pos hv]
    unfold pickK
    congr 1
    refine List.filter_congr fun p hp => ?_
    unfold noTag
    rw [tg_get, hv]
    cases hg : get p.2.sr.tags key with
    | none => rfl
    | some u =>
      have := ok_val (hm.ser p hp).1 (get_some hg)
      simp [this]
  · rw [if_neg hv, texts_keys hm hr.ss (hr.X key val)]
    congr 1
    refine List.filter_congr fun p hp => ?_
    unfold tagOf
    rw [tg_get]
    cases hg : get p.2.sr.tags key with
    | none => simp [show ba0 ≠ val from fun e => hv e.symm]
    | some u => simp
theorem srOf_keys {μ : Me} (hr : RisingK μ.ss) {S : List (BA × SV)} (hs : ∀ p ∈ S, p ∈ μ.ss) : (S.map (·.1)).map (srOf μ) = S.map fun p => p.2.sr := by
  rw [List.map_map]
  refine List.map_congr_left fun p hp => ?_
  show srOf μ p.1 = p.2.sr
  unfold srOf
  rw [rising_get hr (hs p hp)]; rfl
theorem like_with (h : Like L M E K) (hme : ∀ nm, MeOk nm (meOf L M nm)) (hr : ∀ nm, Rises (meOf L M nm)) (nm key val : BA) : (withT (meOf L M nm) key val).map (srOf (meOf L M nm)) = (rWith (rAll E nm) key val).map (·.sr) := by
  rw [withT_keys (hme nm) (hr nm), srOf_keys (hr nm).ss fun p hp => (List.mem_filter.1 hp).1]
  have e1 : ∀ S : List (BA × SV), (S.filter fun p => decide ((p.2.sr.tg key).1 = val)).map (fun p => p.2.sr) = (S.map fun p => p.2.sr).filter fun s => decide ((s.tg key).1 = val) := fun S => by
    rw [List.filter_map]; rfl
  have e2 : ∀ S : List SV, (S.filter fun s => decide ((s.sr.tg key).1 = val)).map (·.sr) = (S.map (·.sr)).filter fun s => decide ((s.tg key).1 = val) := fun S => by
    rw [List.filter_map]; rfl
  unfold rWith
  rw [e1, e2, like_all h hme hr nm]
theorem kindOf_some {nm f : BA} : (kindOf K nm f).isSome = true ↔ ∃ p ∈ K, p.1 = nm ∧ p.2.1 = f := by
  unfold kindOf
  rw [Option.isSome_map, List.find?_isSome]
  constructor
  · rintro ⟨p, hp, h⟩
    unfold isKind at h
    rw [decide_eq_true_eq] at h
    exact ⟨p, hp, h⟩
  · rintro ⟨p, hp, h⟩
    exact ⟨p, hp, by unfold isKind; rw [decide_eq_true_eq]; exact h⟩
theorem like_fields (h : Like L M E K) (hr : ∀ nm, Rises (meOf L M nm)) (nm : BA) {U : List BA} (hU : U.Pairwise sLt) (hm : ∀ t, t ∈ U ↔ ∃ p ∈ K, p.1 = nm ∧ p.2.1 = t) : (meOf L M nm).kd.map (·.1) = U := by
  refine str_unique (List.pairwise_map.2 (hr nm).kd) hU fun t => ?_
  rw [hm, ← kindOf_some, ← h.kd, get_isSome]
end
end Go.Proofs.Ytobcpafalfdpkaa
/- Both indexes hold the same: what each call makes of that. No condition. -/
namespace Go.Proofs.Ytobcpafalfdpkaa
open Go.RowKit Go.WideMaps Go.Sort
section
variable {L L' : List (BA × Nat)} {M M' : BA → Me} {E : List (BA × SV)} {K : List (BA × BA × Int)}
theorem like_new : Like [] (fun _ => me0) [] [] := ⟨List.Pairwise.nil, (fun _ h => nomatch h), fun _ _ => Iff.rfl, fun _ _ => rfl⟩
theorem like_get (h : Like L M E K) (hme : ∀ nm, MeOk nm (meOf L M nm)) {s : Sr} : (get (meOf L M s.name).ss s.txt).isSome = true ↔ ∃ p ∈ E, p.1 = s.txt := by
  rw [get_isSome]
  constructor
  · intro ht
    obtain ⟨p, hp, e⟩ := List.mem_map.1 ht
    obtain ⟨h1, h2, h3⟩ := (hme s.name).ser p hp
    have hs : p.2.sr = s := sr_inj (h2.trans e)
    have := (h.mem p.1 p.2.sr).2 (by rw [hs]; exact List.mem_map.2 ⟨p, hp, by unfold pr; rw [hs]⟩)
    obtain ⟨q, hq, e2⟩ := List.mem_map.1 this
    unfold pr at e2
    injection e2 with e3 _
    exact ⟨q, hq, e3.trans e⟩
  · rintro ⟨p, hp, e⟩
    have hs : p.2.sr = s := sr_inj ((h.ser p hp).2.trans e)
    have := (h.mem p.1 p.2.sr).1 (List.mem_map.2 ⟨p, hp, rfl⟩)
    rw [hs] at this
    obtain ⟨q, hq, e2⟩ := List.mem_map.1 this
    unfold pr at e2
    injection e2 with e3 _
    exact List.mem_map.2 ⟨q, hq, e3.trans e⟩
theorem ins_rise {t : BA} {sv : SV} {k : Nat} (hr : RisingK E) (hp : PlaceS (E.map (·.1)) t k) (hno : ∀ p, E[k]? = some p → p.1 ≠ t) : RisingK (E.take k ++ (t, sv) :: E.drop k) := by
  have hput : PutS (E.map (·.1)) t ((E.map (·.1)).take k ++ t :: (E.map (·.1)).drop k) := ⟨k, hp, .inr ⟨fun e => by
    rw [List.getElem?_map] at e
    cases hq : E[k]? with
    | none => rw [hq] at e; cases e
    | some p => rw [hq] at e; injection e with e; exact hno p hq e, rfl⟩⟩
  have h1 := (put_set hput (List.pairwise_map.2 hr)).1
  have h2 : ((E.take k ++ (t, sv) :: E.drop k).map (·.1)).Pairwise sLt := by
    rw [List.map_append, List.map_take, List.map_cons, List.map_drop]
    exact h1
  exact List.pairwise_map.1 h2
theorem not_in {t : BA} {k : Nat} (hr : RisingK E) (hp : PlaceS (E.map (·.1)) t k) (hno : ∀ p, E[k]? = some p → p.1 ≠ t) : ∀ p ∈ E, p.1 ≠ t := fun p hp' e => by
  have h1 := ins_rise (sv := sv0) hr hp hno
  have h2 : p ∈ E.take k ∨ p ∈ E.drop k := by rw [← List.mem_append, List.take_append_drop]; exact hp'
  obtain ⟨_, h4, h5⟩ := List.pairwise_append.1 h1
  rcases h2 with h2 | h2
  · have := h5 p h2 (t, sv0) (List.mem_cons_self ..)
    simp only [e] at this
    exact sLt_irr _ this
  · have := (List.pairwise_cons.1 h4).1 p h2
    simp only [e] at this
    exact sLt_irr _ this
theorem like_add (h : Like L M E K) {s : Sr} {sv sv' : SV} {k : Nat} (hok : s.ok = true) (hp : PlaceS (E.map (·.1)) s.txt k) (hno : ∀ p, E[k]? = some p → p.1 ≠ s.txt) (hsv : sv.sr = s) (hsv' : sv'.sr = s)
    (hnone : get (meOf L M s.name).ss s.txt = none) (hss : (meOf L' M' s.name).ss = put (meOf L M s.name).ss s.txt sv') (hkd : (meOf L' M' s.name).kd = (meOf L M s.name).kd) (ho : ∀ nm, nm ≠ s.name → meOf L' M' nm = meOf L M nm) :
    Like L' M' (E.take k ++ (s.txt, sv) :: E.drop k) K := by
  refine ⟨ins_rise h.rise hp hno, fun p hp' => ?_, fun t u => ?_, fun nm f => ?_⟩
  · rcases List.mem_append.1 hp' with hp' | hp'
    · exact h.ser p (List.mem_of_mem_take hp')
    · rcases List.mem_cons.1 hp' with rfl | hp'
      · exact ⟨by rw [hsv]; exact hok, by rw [hsv]⟩
      · exact h.ser p (List.mem_of_mem_drop hp')
  · have h1 : (t, u) ∈ (E.take k ++ (s.txt, sv) :: E.drop k).map pr ↔ (t, u) ∈ E.map pr ∨ (t, u) = (s.txt, s) := by
      rw [List.map_append, List.map_cons, List.mem_append, List.mem_cons]
      have h2 : (t, u) ∈ E.map pr ↔ (t, u) ∈ (E.take k).map pr ∨ (t, u) ∈ (E.drop k).map pr := by
        rw [← List.mem_append, ← List.map_append, List.take_append_drop]
      have h3 : pr (s.txt, sv) = (s.txt, s) := by unfold pr; rw [hsv]
      rw [h2, h3]
      constructor
      · rintro (h | h | h)
        · exact .inl (.inl h)
        · exact .inr h
        · exact .inl (.inr h)
      · rintro ((h | h) | h)
        · exact .inl h
        · exact .inr (.inr h)
        · exact .inr (.inl h)
    rw [h1, h.mem]
    by_cases hn : u.name = s.name
    · rw [hn, hss]
      constructor
      · rintro (h2 | h2)
        · obtain ⟨p, hp', e⟩ := List.mem_map.1 h2
          refine List.mem_map.2 ⟨p, put_mem.2 (.inr ⟨hp', fun e2 => ?_⟩), e⟩
          exact absurd e2 (get_none hnone p hp')
        · exact List.mem_map.2 ⟨(s.txt, sv'), put_mem.2 (.inl rfl), by rw [h2]; unfold pr; rw [hsv']⟩
      · intro h2
        obtain ⟨p, hp', e⟩ := List.mem_map.1 h2
        rcases put_mem.1 hp' with rfl | ⟨hp', _⟩
        · right
          rw [← e]; unfold pr; rw [hsv']
        · exact .inl (List.mem_map.2 ⟨p, hp', e⟩)
    · rw [ho _ hn]
      exact ⟨fun h2 => h2.elim id fun e => absurd (by injection e with _ e2; rw [e2]) hn, .inl⟩
  · by_cases hn : nm = s.name
    · subst hn
      rw [hkd, h.kd]
    · rw [ho _ hn, h.kd]
theorem like_drop (h : Like L M E K) {s : Sr} {k : Nat} {p : BA × SV} (hp : E[k]? = some p) (ht : p.1 = s.txt) (hss : (meOf L' M' s.name).ss = del (meOf L M s.name).ss s.txt) (hkd : (meOf L' M' s.name).kd = (meOf L M s.name).kd) (ho : ∀ nm, nm ≠ s.name → meOf L' M' nm = meOf L M nm) :
    Like L' M' (E.eraseIdx k) K := by
  obtain ⟨hk, he⟩ := List.getElem?_eq_some_iff.1 hp
  have hmem : ∀ q, q ∈ E.eraseIdx k ↔ q ∈ E ∧ q.1 ≠ s.txt := fun q => by
    rw [List.mem_eraseIdx_iff_getElem?]
    constructor
    · rintro ⟨i, hik, hi⟩
      refine ⟨List.mem_of_getElem? hi, fun e => ?_⟩
      obtain ⟨hil, hie⟩ := List.getElem?_eq_some_iff.1 hi
      have hpw := List.pairwise_iff_getElem.1 h.rise
      rcases Nat.lt_or_gt_of_ne hik with hlt | hlt
      · have := hpw i k hil hk hlt
        rw [hie, he, e, ht] at this
        exact sLt_irr _ this
      · have := hpw k i hk hil hlt
        rw [hie, he, e, ht] at this
        exact sLt_irr _ this
    · rintro ⟨hq, hne⟩
      obtain ⟨i, hi, e⟩ := List.mem_iff_getElem.1 hq
      refine ⟨i, fun hik => ?_, by rw [List.getElem?_eq_getElem hi, e]⟩
      subst hik
      rw [he] at e
      rw [← e] at hne
      exact hne ht
  refine ⟨h.rise.sublist (List.eraseIdx_sublist ..), fun q hq => h.ser q ((hmem q).1 hq).1, fun t u => ?_, fun nm f => ?_⟩
  · have h1 : (t, u) ∈ (E.eraseIdx k).map pr ↔ (t, u) ∈ E.map pr ∧ t ≠ s.txt := by
      constructor
      · intro h2
        obtain ⟨q, hq, e⟩ := List.mem_map.1 h2
        obtain ⟨h3, h4⟩ := (hmem q).1 hq
        unfold pr at e
        injection e with e1 e2
        exact ⟨List.mem_map.2 ⟨q, h3, by unfold pr; rw [e1, e2]⟩, by rw [← e1]; exact h4⟩
      · rintro ⟨h2, h3⟩
        obtain ⟨q, hq, e⟩ := List.mem_map.1 h2
        have e' := e
        unfold pr at e
        injection e with e1 e2
        exact List.mem_map.2 ⟨q, (hmem q).2 ⟨hq, by rw [e1]; exact h3⟩, e'⟩
    rw [h1, h.mem]
    by_cases hn : u.name = s.name
    · rw [hn, hss]
      constructor
      · rintro ⟨h2, h3⟩
        obtain ⟨q, hq, e⟩ := List.mem_map.1 h2
        have e' := e
        unfold pr at e
        injection e with e1 e2
        exact List.mem_map.2 ⟨q, del_mem.2 ⟨hq, by rw [e1]; exact h3⟩, e'⟩
      · intro h2
        obtain ⟨q, hq, e⟩ := List.mem_map.1 h2
        obtain ⟨h3, h4⟩ := del_mem.1 hq
        have e' := e
        unfold pr at e
        injection e with e1 e2
        exact ⟨List.mem_map.2 ⟨q, h3, e'⟩, by rw [← e1]; exact h4⟩
    · rw [ho _ hn]
      refine ⟨fun h2 => h2.1, fun h2 => ⟨h2, fun e => ?_⟩⟩
      have h3 := (h.mem t u).2 h2
      obtain ⟨q, hq, e2⟩ := List.mem_map.1 h3
      unfold pr at e2
      injection e2 with e3 e4
      have h5 := (h.ser q hq).2
      rw [e3, e, e4] at h5
      exact hn (by rw [sr_inj h5])
  · by_cases hn : nm = s.name
    · subst hn
      rw [hkd, h.kd]
    · rw [ho _ hn, h.kd]
theorem like_forget (h : Like L M E K) {nm : BA} (hz : meOf L' M' nm = me0) (ho : ∀ nm', nm' ≠ nm → meOf L' M' nm' = meOf L M nm') : Like L' M' (fE E nm) (fK K nm) := by
  refine ⟨List.Pairwise.filter _ h.rise, fun p hp => h.ser p (List.mem_filter.1 hp).1, fun t u => ?_, fun n f => ?_⟩
  · have h1 : (t, u) ∈ (fE E nm).map pr ↔ (t, u) ∈ E.map pr ∧ u.name ≠ nm := by
      unfold fE
      constructor
      · intro h2
        obtain ⟨q, hq, e⟩ := List.mem_map.1 h2
        obtain ⟨h3, h4⟩ := List.mem_filter.1 hq
        have e' := e
        unfold pr at e
        injection e with e1 e2
        exact ⟨List.mem_map.2 ⟨q, h3, e'⟩, by rw [← e2]; simpa using h4⟩
      · rintro ⟨h2, h3⟩
        obtain ⟨q, hq, e⟩ := List.mem_map.1 h2
        have e' := e
        unfold pr at e
        injection e with e1 e2
        exact List.mem_map.2 ⟨q, List.mem_filter.2 ⟨hq, by rw [e2]; simpa using h3⟩, e'⟩
    rw [h1, h.mem]
    by_cases hn : u.name = nm
    · rw [hn, hz]
      exact ⟨fun h2 => absurd rfl h2.2, fun h2 => nomatch h2⟩
    · rw [ho _ hn]
      exact ⟨fun h2 => h2.1, fun h2 => ⟨h2, hn⟩⟩
  · have hkf : ∀ K : List (BA × BA × Int), kindOf (fK K nm) n f = if n = nm then none else kindOf K n f := fun K => by
      unfold kindOf fK
      rw [List.find?_filter]
      by_cases hn : n = nm
      · rw [if_pos hn, Option.map_eq_none_iff, List.find?_eq_none]
        intro p _ h2
        unfold isKind at h2
        simp only [decide_eq_true_eq, Bool.not_eq_true', decide_eq_false_iff_not] at h2
        exact h2.1 (h2.2.1.trans hn)
      · rw [if_neg hn]
        congr 1
        congr 1
        funext p
        unfold isKind
        rw [Bool.eq_iff_iff]
        simp only [Bool.not_eq_true', decide_eq_false_iff_not, decide_eq_true_eq]
        exact ⟨fun h2 => h2.2, fun h2 => ⟨fun e => hn (h2.1.symm.trans e), h2⟩⟩
    rw [hkf]
    by_cases hn : n = nm
    · rw [if_pos hn, hn, hz]; rfl
    · rw [if_neg hn, ho _ hn, h.kd]
theorem like_set (h : Like L M E K) {nm f : BA} {k : Int} (hss : (meOf L' M' nm).ss = (meOf L M nm).ss) (hkd : (meOf L' M' nm).kd = skD (meOf L M nm).kd f k) (ho : ∀ nm', nm' ≠ nm → meOf L' M' nm' = meOf L M nm') : Like L' M' E (kinS K nm f k) := by
  refine ⟨h.rise, h.ser, fun t u => ?_, fun n g => ?_⟩
  · rw [h.mem]
    by_cases hn : u.name = nm
    · rw [hn, hss]
    · rw [ho _ hn]
  · have hkf : kindOf (kinS K nm f k) n g = if n = nm ∧ g = f ∧ skE (kindOf K nm f) k = 0 then some k else kindOf K n g := by
      unfold kinS
      by_cases hE : skE (kindOf K nm f) k = 0
      · cases hkn : kindOf K nm f with
        | some o =>
          rw [hkn] at hE
          have hok : o = k := by
            unfold skE at hE
            split at hE
            · cases hE
            · simp only at hE
              split at hE
              · assumption
              · cases hE
          rw [if_neg (by simp)]
          by_cases hc : n = nm ∧ g = f
          · rw [if_pos ⟨hc.1, hc.2, hE⟩, hc.1, hc.2, hkn, hok]
          · rw [if_neg fun h2 => hc ⟨h2.1, h2.2.1⟩]
        | none =>
          rw [hkn] at hE
          rw [if_pos ⟨hE, rfl⟩]
          have happ : kindOf (K ++ [(nm, f, k)]) n g = (kindOf K n g).or (if isKind n g (nm, f, k) then some k else none) := by
            unfold kindOf
            rw [List.find?_append]
            cases hq : K.find? (isKind n g) with
            | some q => rfl
            | none =>
              simp only [Option.none_or, List.find?_cons, List.find?_nil, Option.map_none]
              cases isKind n g (nm, f, k) <;> rfl
          rw [happ]
          by_cases hc : n = nm ∧ g = f
          · obtain ⟨rfl, rfl⟩ := hc
            have : isKind n g (n, g, k) = true := by unfold isKind; simp
            rw [this, hkn, if_pos (show n = n ∧ g = g ∧ skE none k = 0 from ⟨rfl, rfl, hE⟩)]; rfl
          · have : isKind n g (nm, f, k) = false := by
              unfold isKind
              rw [decide_eq_false_iff_not]
              exact fun h2 => hc ⟨h2.1.symm, h2.2.symm⟩
            rw [this, if_neg (show ¬ (n = nm ∧ g = f ∧ skE none k = 0) from fun h2 => hc ⟨h2.1, h2.2.1⟩)]
            cases kindOf K n g <;> rfl
      · rw [if_neg fun h2 => hE h2.1, if_neg fun h2 => hE h2.2.2]
    rw [hkf]
    by_cases hn : n = nm
    · subst hn
      rw [hkd]
      unfold skD
      rw [h.kd]
      by_cases hE : skE (kindOf K n f) k = 0
      · rw [if_pos hE, get_put]
        by_cases hg : g = f
        · rw [if_pos hg.symm, if_pos ⟨rfl, hg, hE⟩]
        · rw [if_neg fun e => hg e.symm, if_neg fun h2 => hg h2.2.1, h.kd]
      · rw [if_neg hE, if_neg fun h2 => hE h2.2.2, h.kd]
    · rw [ho _ hn, if_neg fun h2 => hn h2.1, h.kd]
theorem fE_len (h : Like L M E K) (hme : ∀ nm, MeOk nm (meOf L M nm)) (hr : ∀ nm, Rises (meOf L M nm)) (nm : BA) : (E.length : Int) - ((fE E nm).length : Int) = ((meOf L M nm).ss.length : Int) := by
  rw [like_len h hme hr nm]
  have h1 : ∀ E : List (BA × SV), E.length = (fE E nm).length + (rAll E nm).length := fun E => by
    unfold fE rAll
    rw [List.length_map]
    induction E with
    | nil => rfl
    | cons p r ih =>
      simp only [List.filter_cons, List.length_cons]
      by_cases hn : p.2.sr.name = nm
      · simp [hn]; omega
      · simp [hn]; omega
  have := h1 E
  omega
end
end Go.Proofs.Ytobcpafalfdpkaa
