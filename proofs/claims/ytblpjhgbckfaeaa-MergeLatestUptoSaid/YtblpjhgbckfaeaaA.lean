/- The plain law of merging: of each key and each time the last value; a table that rises is fixed by what it has; merged in parts it comes to the same. No condition. -/
namespace Go.Proofs.Ytblpjhgbckfaeaa
section
variable {K V : Type} [DecidableEq K]
/-- A point on its way: its key, its time, its value. -/
structure Tr (K V : Type) where
  k : K
  t : Int
  v : V
structure Col (K V : Type) where
  k : K
  pts : List (Int × V)
/-- The last value of a key at a time. -/
def lastV : List (Tr K V) → K → Int → Option V
  | [], _, _ => none
  | x :: r, k, t => (lastV r k t).or (if x.k = k ∧ x.t = t then some x.v else none)
theorem lastV_append (A B : List (Tr K V)) (k : K) (t : Int) : lastV (A ++ B) k t = (lastV B k t).or (lastV A k t) := by
  induction A with
  | nil => simp [lastV]
  | cons x A ih => rw [List.cons_append, lastV, ih, lastV, Option.or_assoc]
def flat (C : List (Col K V)) : List (Tr K V) := C.flatMap fun c => c.pts.map fun p => ⟨c.k, p.1, p.2⟩
/-- What a table has. -/
def Has (C : List (Col K V)) (k : K) (t : Int) (v : V) : Prop := ∃ c ∈ C, c.k = k ∧ (t, v) ∈ c.pts
omit [DecidableEq K] in
theorem flat_mem {C : List (Col K V)} {x : Tr K V} : x ∈ flat C ↔ Has C x.k x.t x.v := by
  unfold flat Has
  rw [List.mem_flatMap]
  constructor
  · rintro ⟨c, hc, hx⟩
    obtain ⟨p, hp, rfl⟩ := List.mem_map.1 hx
    exact ⟨c, hc, rfl, hp⟩
  · rintro ⟨c, hc, hk, hp⟩
    exact ⟨c, hc, List.mem_map.2 ⟨_, hp, by cases x; simp only at hk; subst hk; rfl⟩⟩
/-- A table that rises: its keys, and each column's times; no column is empty. -/
structure Rises (lt : K → K → Prop) (C : List (Col K V)) : Prop where
  keys : C.Pairwise fun a b => lt a.k b.k
  times : ∀ c ∈ C, c.pts.Pairwise fun a b => a.1 < b.1
  full : ∀ c ∈ C, c.pts ≠ []
omit [DecidableEq K] in
theorem rises_one {lt : K → K → Prop} (irr : ∀ a, ¬ lt a a) {C : List (Col K V)} (h : Rises lt C) {c d : Col K V} (hc : c ∈ C) (hd : d ∈ C) (hk : c.k = d.k) : c = d := by
  have h1 := h.keys
  induction C with
  | nil => cases hc
  | cons x C ih =>
    rw [List.pairwise_cons] at h1
    have hR : Rises lt C := ⟨h1.2, fun c hc => h.times c (List.mem_cons_of_mem _ hc), fun c hc => h.full c (List.mem_cons_of_mem _ hc)⟩
    rcases List.mem_cons.1 hc with e1 | hc'
    · rcases List.mem_cons.1 hd with e2 | hd'
      · rw [e1, e2]
      · have h2 := h1.1 d hd'
        rw [← e1, hk] at h2
        exact absurd h2 (irr _)
    · rcases List.mem_cons.1 hd with e2 | hd'
      · have h2 := h1.1 c hc'
        rw [← e2, hk] at h2
        exact absurd h2 (irr _)
      · exact ih hR hc' hd' h1.2
omit [DecidableEq K] in
theorem time_one {L : List (Int × V)} (h : L.Pairwise fun a b => a.1 < b.1) {t : Int} {v u : V} (hv : (t, v) ∈ L) (hu : (t, u) ∈ L) : v = u := by
  induction L with
  | nil => cases hv
  | cons x L ih =>
    rw [List.pairwise_cons] at h
    rcases List.mem_cons.1 hv with e1 | hv'
    · rcases List.mem_cons.1 hu with e2 | hu'
      · exact congrArg Prod.snd (e1.trans e2.symm)
      · have h2 := h.1 _ hu'
        rw [← e1] at h2
        exact absurd h2 (Int.lt_irrefl _)
    · rcases List.mem_cons.1 hu with e2 | hu'
      · have h2 := h.1 _ hv'
        rw [← e2] at h2
        exact absurd h2 (Int.lt_irrefl _)
      · exact ih h.2 hv' hu'
omit [DecidableEq K] in
theorem has_one {lt : K → K → Prop} (irr : ∀ a, ¬ lt a a) {C : List (Col K V)} (h : Rises lt C) {k : K} {t : Int} {v u : V} (hv : Has C k t v) (hu : Has C k t u) : v = u := by
  obtain ⟨c, hc, hck, hcp⟩ := hv
  obtain ⟨d, hd, hdk, hdp⟩ := hu
  obtain rfl := rises_one irr h hc hd (hck.trans hdk.symm)
  exact time_one (h.times c hc) hcp hdp
theorem lastV_mem {T : List (Tr K V)} {k : K} {t : Int} {v : V} (h : lastV T k t = some v) : ⟨k, t, v⟩ ∈ T := by
  induction T with
  | nil => cases h
  | cons x T ih =>
    rw [lastV] at h
    cases hl : lastV T k t with
    | some u => rw [hl] at h; exact List.mem_cons_of_mem _ (ih (by rw [hl]; simpa using h))
    | none =>
      rw [hl, Option.none_or] at h
      split at h
      · rename_i hx
        obtain ⟨rfl, rfl⟩ := hx
        cases h
        exact List.mem_cons_self ..
      · cases h
theorem lastV_some {T : List (Tr K V)} {x : Tr K V} (h : x ∈ T) : ∃ v, lastV T x.k x.t = some v := by
  induction T with
  | nil => cases h
  | cons y T ih =>
    rw [lastV]
    rcases List.mem_cons.1 h with rfl | h
    · cases hl : lastV T x.k x.t with
      | some u => exact ⟨u, rfl⟩
      | none => exact ⟨x.v, by simp⟩
    · obtain ⟨u, hu⟩ := ih h
      exact ⟨u, by rw [hu]; rfl⟩
theorem lastV_flat {lt : K → K → Prop} (irr : ∀ a, ¬ lt a a) {C : List (Col K V)} (h : Rises lt C) (k : K) (t : Int) (v : V) : lastV (flat C) k t = some v ↔ Has C k t v := by
  constructor
  · intro h1
    exact flat_mem.1 (lastV_mem h1)
  · intro h1
    obtain ⟨u, hu⟩ := lastV_some (T := flat C) (x := ⟨k, t, v⟩) (flat_mem.2 h1)
    rw [hu, has_one irr h h1 (flat_mem.1 (lastV_mem hu))]
/-- The table that merging answers. -/
structure Merged (lt : K → K → Prop) (T : List (Tr K V)) (C : List (Col K V)) : Prop where
  rises : Rises lt C
  has : ∀ k t v, Has C k t v ↔ lastV T k t = some v
theorem Merged.flat {lt : K → K → Prop} (irr : ∀ a, ¬ lt a a) {T : List (Tr K V)} {C : List (Col K V)} (h : Merged lt T C) (k : K) (t : Int) : lastV (flat C) k t = lastV T k t := by
  cases hl : lastV T k t with
  | some v => exact (lastV_flat irr h.rises k t v).2 ((h.has k t v).2 hl)
  | none =>
    cases hf : lastV (Ytblpjhgbckfaeaa.flat C) k t with
    | none => rfl
    | some v =>
      have := (h.has k t v).1 ((lastV_flat irr h.rises k t v).1 hf)
      rw [hl] at this
      cases this
/-- Merged in parts it comes to the same. -/
theorem Merged.parts {lt : K → K → Prop} (irr : ∀ a, ¬ lt a a) {A B : List (Tr K V)} {C1 C2 C : List (Col K V)} (h1 : Merged lt A C1) (h2 : Merged lt B C2) (h : Merged lt (A ++ B) C) : Merged lt (Ytblpjhgbckfaeaa.flat C1 ++ Ytblpjhgbckfaeaa.flat C2) C :=
  ⟨h.rises, fun k t v => by rw [h.has, lastV_append, lastV_append, h1.flat irr, h2.flat irr]⟩
omit [DecidableEq K] in
theorem sorted_unique {α : Type} {r : α → α → Prop} (irr : ∀ a, ¬ r a a) (tr : ∀ a b c, r a b → r b c → r a c) : ∀ {L M : List α}, L.Pairwise r → M.Pairwise r → (∀ x, x ∈ L ↔ x ∈ M) → L = M
  | [], [], _, _, _ => rfl
  | [], m :: M, _, _, h => nomatch (h m).2 (List.mem_cons_self ..)
  | l :: L, [], _, _, h => nomatch (h l).1 (List.mem_cons_self ..)
  | l :: L, m :: M, hL, hM, h => by
    rw [List.pairwise_cons] at hL hM
    have hlm : l = m := by
      rcases List.mem_cons.1 ((h l).1 (List.mem_cons_self ..)) with e | e
      · exact e
      · rcases List.mem_cons.1 ((h m).2 (List.mem_cons_self ..)) with e2 | e2
        · exact e2.symm
        · exact absurd (tr _ _ _ (hL.1 m e2) (hM.1 l e)) (irr l)
    subst hlm
    congr 1
    refine sorted_unique irr tr hL.2 hM.2 fun x => ⟨fun hx => ?_, fun hx => ?_⟩
    · rcases List.mem_cons.1 ((h x).1 (List.mem_cons_of_mem _ hx)) with e | e
      · exact absurd (e ▸ hL.1 x hx) (irr _)
      · exact e
    · rcases List.mem_cons.1 ((h x).2 (List.mem_cons_of_mem _ hx)) with e | e
      · exact absurd (e ▸ hM.1 x hx) (irr _)
      · exact e
omit [DecidableEq K] in
theorem col_in {lt : K → K → Prop} (irr : ∀ a, ¬ lt a a) {C D : List (Col K V)} (hC : Rises lt C) (hD : Rises lt D) (h : ∀ k t v, Has C k t v ↔ Has D k t v) {c : Col K V} (hc : c ∈ C) : c ∈ D := by
  obtain ⟨p, hp⟩ := List.exists_mem_of_ne_nil _ (hC.full c hc)
  obtain ⟨d, hd, hdk, _⟩ := (h c.k p.1 p.2).1 ⟨c, hc, rfl, hp⟩
  have hpts : c.pts = d.pts := by
    refine sorted_unique (r := fun a b : Int × V => a.1 < b.1) (fun a => Int.lt_irrefl _) (fun a b c h1 h2 => Int.lt_trans h1 h2) (hC.times c hc) (hD.times d hd) fun q => ⟨fun hq => ?_, fun hq => ?_⟩
    · obtain ⟨d', hd', hdk', hq'⟩ := (h c.k q.1 q.2).1 ⟨c, hc, rfl, hq⟩
      obtain rfl := rises_one irr hD hd hd' (hdk.trans hdk'.symm)
      exact hq'
    · obtain ⟨c', hc', hck', hq'⟩ := (h c.k q.1 q.2).2 ⟨d, hd, hdk, hq⟩
      obtain rfl := rises_one irr hC hc hc' hck'.symm
      exact hq'
  have : c = d := by
    cases c; cases d
    simp only at hdk hpts
    subst hdk hpts
    rfl
  rw [this]; exact hd
omit [DecidableEq K] in
/-- A table that rises is fixed by what it has. -/
theorem rises_unique {lt : K → K → Prop} (irr : ∀ a, ¬ lt a a) (tr : ∀ a b c, lt a b → lt b c → lt a c) {C D : List (Col K V)} (hC : Rises lt C) (hD : Rises lt D) (h : ∀ k t v, Has C k t v ↔ Has D k t v) : C = D :=
  sorted_unique (r := fun a b : Col K V => lt a.k b.k) (fun _ => irr _) (fun _ _ _ => tr _ _ _) hC.keys hD.keys fun _ => ⟨col_in irr hC hD h, col_in irr hD hC fun k t v => (h k t v).symm⟩
theorem Merged.unique {lt : K → K → Prop} (irr : ∀ a, ¬ lt a a) (tr : ∀ a b c, lt a b → lt b c → lt a c) {T : List (Tr K V)} {C D : List (Col K V)} (hC : Merged lt T C) (hD : Merged lt T D) : C = D :=
  rises_unique irr tr hC.rises hD.rises fun k t v => (hC.has k t v).trans (hD.has k t v).symm
omit [DecidableEq K] in
theorem flat_apart {lt : K → K → Prop} (irr : ∀ a, ¬ lt a a) : ∀ {C : List (Col K V)}, Rises lt C → (flat C).Pairwise fun a b => ¬ (a.k = b.k ∧ a.t = b.t)
  | [], _ => List.Pairwise.nil
  | c :: C, h => by
    have hk := h.keys
    rw [List.pairwise_cons] at hk
    have hR : Rises lt C := ⟨hk.2, fun d hd => h.times d (List.mem_cons_of_mem _ hd), fun d hd => h.full d (List.mem_cons_of_mem _ hd)⟩
    unfold flat
    rw [List.flatMap_cons, List.pairwise_append]
    refine ⟨?_, flat_apart irr hR, fun a ha b hb e => ?_⟩
    · rw [List.pairwise_map]
      refine (h.times c (List.mem_cons_self ..)).imp fun h1 e => ?_
      have := e.2
      simp only at this
      omega
    · obtain ⟨q, _, rfl⟩ := List.mem_map.1 ha
      obtain ⟨d, hd, hdk, _⟩ := flat_mem.1 hb
      have h1 := hk.1 d hd
      have h2 : c.k = b.k := e.1
      rw [h2, ← hdk] at h1
      exact irr _ h1
def cnt (T : List (Tr K V)) (k : K) (t : Int) : Nat := (T.filter fun x => decide (x.k = k ∧ x.t = t)).length
/-- Each point of a table that rises is there once. -/
theorem cnt_one {lt : K → K → Prop} (irr : ∀ a, ¬ lt a a) {C : List (Col K V)} (h : Rises lt C) {k : K} {t : Int} {v : V} (hv : Has C k t v) : cnt (flat C) k t = 1 := by
  have h1 := (flat_apart irr h).filter fun x => decide (x.k = k ∧ x.t = t)
  have h2 : (⟨k, t, v⟩ : Tr K V) ∈ (flat C).filter fun x => decide (x.k = k ∧ x.t = t) := List.mem_filter.2 ⟨flat_mem.2 hv, by simp⟩
  have h3 : ∀ x ∈ (flat C).filter fun x => decide (x.k = k ∧ x.t = t), x.k = k ∧ x.t = t := fun x hx => of_decide_eq_true (List.mem_filter.1 hx).2
  unfold cnt
  generalize (flat C).filter (fun x => decide (x.k = k ∧ x.t = t)) = L at *
  match L, h1, h2, h3 with
  | [], _, h2, _ => exact nomatch h2
  | [x], _, _, _ => rfl
  | x :: y :: L, h1, _, h3 =>
    rw [List.pairwise_cons] at h1
    have hx := h3 x (List.mem_cons_self ..)
    have hy := h3 y (List.mem_cons_of_mem _ (List.mem_cons_self ..))
    exact absurd ⟨hx.1.trans hy.1.symm, hx.2.trans hy.2.symm⟩ (h1.1 y (List.mem_cons_self ..))
end
end Go.Proofs.Ytblpjhgbckfaeaa
