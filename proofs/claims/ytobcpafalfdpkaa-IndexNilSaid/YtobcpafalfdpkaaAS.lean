/- A name's bounds between calls; a list of series that comes in. No condition. -/
import Derived.Test.YtobcpafalfdpkaaAO
import Derived.SizedLaws
namespace Go.Proofs.Ytobcpafalfdpkaa
open Go.RowKit Go.WideMaps Go.Sort Go.Deep Go.WideShapes Go.ChangeShapes
open Go.ChangeMaps (open_string)
theorem filterMap_len {α β : Type} (f : α → Option β) : ∀ L : List α, (L.filterMap f).length ≤ L.length
  | [] => Nat.le_refl _
  | x :: r => by
    rw [List.filterMap_cons]
    have := filterMap_len f r
    cases f x <;> simp <;> omega
theorem vals_from {nm : BA} {μ : Me} (h : MeOk nm μ) {k v : BA} (hv : v ∈ (valsOf μ k).map (·.1)) (hrv : RisingK (valsOf μ k)) (hx : ∀ v, RisingK (textsOf μ k v)) : ∃ p ∈ μ.ss, tagOf k p = some v := by
  obtain ⟨q, hq, rfl⟩ := List.mem_map.1 hv
  have hg := rising_get hrv hq
  cases hA : get μ.A k with
  | none => unfold valsOf at hq; rw [hA] at hq; cases hq
  | some kb =>
    have hV : valsOf μ k = μ.V k := by unfold valsOf; rw [hA]
    have hne : μ.X k q.1 ≠ [] := h.full.2 _ (get_some hA) q (by rw [← hV]; exact hq)
    have hT : textsOf μ k q.1 = μ.X k q.1 := by unfold textsOf; rw [hg]
    obtain ⟨y, hy⟩ := List.exists_mem_of_ne_nil _ hne
    have hat : At μ k q.1 y.1 := by
      unfold At
      have := hx q.1
      rw [hT] at this
      rw [hT, rising_get this hy]; rfl
    obtain ⟨sv, h1, h2⟩ := (h.at_ _ _ _).1 hat
    have hm := get_some h1
    exact ⟨_, hm, (tagOf_iff (h.ser _ hm).1).2 h2⟩
theorem rising_nodup {α : Type} {L : List (BA × α)} (h : RisingK L) : (L.map (·.1)).Nodup := by
  unfold List.Nodup
  refine List.Pairwise.imp (R := sLt) ?_ (List.pairwise_map.2 h)
  intro a b hl e
  rw [e] at hl
  exact sLt_irr _ hl
/-- The maps of a name rise. -/
structure Rises (μ : Me) : Prop where
  ss : RisingK μ.ss
  A : RisingK μ.A
  V : ∀ k, RisingK (valsOf μ k)
  X : ∀ k v, RisingK (textsOf μ k v)
  kd : RisingK μ.kd
theorem rises0 : Rises me0 := ⟨List.Pairwise.nil, List.Pairwise.nil, fun _ => List.Pairwise.nil, fun _ _ => List.Pairwise.nil, List.Pairwise.nil⟩
theorem View.rises {w : World} {g : Nat} {a b c : Option Nat} {μ : Me} (h : View w g a b c μ) : Rises μ := ⟨h.ser.rising, h.tgs.rising, fun k => (h.vals k).rising, fun k v => (h.texts k v).rising, h.kin.rising⟩
theorem IdxAt.rises {w : World} {ρ : Nat → Option Role} {x m : Nat} {L : List (BA × Nat)} {M : BA → Me} (h : IdxAt w ρ x m L M) (nm : BA) : Rises (meOf L M nm) := by
  unfold meOf
  cases hg : get L nm with
  | none => exact rises0
  | some b => exact (h.meas _ (get_some hg)).view.rises
theorem MeOk.bd {nm : BA} {μ : Me} (h : MeOk nm μ) (hr : Rises μ) (hs : μ.ss.length ≤ 3518437208780) (hk : μ.kd.length ≤ 3518437208780) : Bd μ := by
  refine ⟨hs, fun k => ?_, fun k v => ?_, hk⟩
  · have h1 := nodup_len ((valsOf μ k).map (·.1)) (μ.ss.filterMap (tagOf k)) (rising_nodup (hr.V k)) fun v hv => by
      obtain ⟨p, hp, e⟩ := vals_from h hv (hr.V k) (hr.X k)
      exact List.mem_filterMap.2 ⟨p, hp, e⟩
    rw [List.length_map] at h1
    exact Nat.le_trans h1 (Nat.le_trans (filterMap_len _ _) hs)
  · rw [texts_len h hr.ss (hr.X k v)]
    exact Nat.le_trans (List.length_filter_le ..) hs
theorem Good.rises {w : World} {ρ : Nat → Option Role} {x m : Nat} {L : List (BA × Nat)} {M : BA → Me} {N : Nat} (h : Good w ρ x m L M N) (nm : BA) : Rises (meOf L M nm) := h.idx.rises nm
theorem Good.bdd {w : World} {ρ : Nat → Option Role} {x m : Nat} {L : List (BA × Nat)} {M : BA → Me} {N : Nat} (h : Good w ρ x m L M N) (hN : N ≤ 3518437208780) (nm : BA) : Bd (meOf L M nm) :=
  (h.me nm).bd (h.rises nm) (Nat.le_trans (h.ss nm) hN) (Nat.le_trans (h.kd nm) hN)
theorem tags_nil0 {H : Type} {enc : TypeId × Value → H} {W : World} {fuel : Nat} {a : Option Addr} {n cap : Nat} {x : DataW H × List MemPlace} (hf : DataW.trod enc Try.prog W 0 (fun _ => true) true fuel 29 [.slice a n cap] = some x) : a = none → cap = 0 := by
  rintro rfl
  rcases open_slice Try.underlying29 hf with ⟨hcs, _⟩ | ⟨b, l, c, m, k, D, Pl, hcs, _⟩
  · simp at hcs; exact hcs.2
  · simp at hcs
theorem getD_range {α : Type} (f : Nat → α) (n : Nat) (d : α) {i : Nat} (hi : i < n) : ((List.range n).map f).getD i d = f i := by
  simp [List.getD, hi]
/-- A series out of what was read. -/
theorem sr_of {W : World} {name : BA} {a : Option Addr} {n c : Nat} {kf vf : Nat → ByteArray} (h0 : a = none → c = 0) (hn : n < 2 ^ 63) (ht : TagsAt W a n kf vf) (hs : ∀ i, (kf i).size ≤ maxLen ∧ (vf i).size ≤ maxLen) (hnm : name.size ≤ maxLen) : ∃ s : Sr, s.name = name ∧ s.tags.length = n ∧ SrIn W (.agg #[.string name, .slice a n c]) s := by
  refine ⟨⟨name, (List.range n).map fun i => (kf i, vf i)⟩, rfl, by simp, a, c, by simp, h0, by simpa using hn, ?_, hnm, fun p hp => ?_⟩
  · intro i hi
    have hi' : i < n := by simpa using hi
    obtain ⟨b, off, e1, e2, e3, e4⟩ := ht i hi'
    refine ⟨b, off, e1, e2, ?_, ?_⟩
    · rw [e3]; unfold Sr.kf; rw [getD_range _ _ _ hi']
    · rw [e4]; unfold Sr.vf; rw [getD_range _ _ _ hi']
  · obtain ⟨i, _, rfl⟩ := List.mem_map.1 hp
    exact hs i
/-- A series in a cell of a list that came in. -/
def SerIn (W : World) (b off : Nat) (s : Sr) : Prop := ∃ a c, W.cell? ⟨b, off, none⟩ = some (.string s.name) ∧ W.cell? ⟨b, off + 1, none⟩ = some (.slice a s.tags.length c) ∧ SrIn W (.agg #[.string s.name, .slice a s.tags.length c]) s
theorem SrIn.block {W : World} {nm : Value} {a : Addr} {n c : Nat} {s : Sr} (h : SrIn W (.agg #[nm, .slice (some a) n c]) s) (hn : n ≠ 0) : a.block < W.heap.size := by
  obtain ⟨a', c', e, _, _, ht, _⟩ := h
  injection e with e
  simp at e
  obtain ⟨rfl, e1, rfl, rfl⟩ := e
  obtain ⟨b, off, e2, e3, _⟩ := ht 0 (by omega)
  have e4 : a = ⟨b, off, none⟩ := by rw [← e1] at e2; injection e2
  rw [e4]
  exact e3
theorem cells29 : Try.prog.cellsOf 29 = 1 := by kernel_rfl
set_option maxRecDepth 100000 in
theorem ser_trod {H : Type} {enc : TypeId × Value → H} {W : World} {fuel : Nat} {cs : List Value} {y : DataW H × List MemPlace} (h : DataW.trod enc Try.prog W 0 (fun _ => true) true fuel 31 cs = some y) (hl : cs.length = 2) : ∃ (s : Sr) (a : Option Addr) (c : Nat), cs = [.string s.name, .slice a s.tags.length c] ∧ SrIn W (.agg #[.string s.name, .slice a s.tags.length c]) s := by
  obtain ⟨y0, y1, k, _, _, e0, e1⟩ := trod_struct2 Try.underlying31 h
  simp only [cells9] at e0 e1
  match cs, hl with
  | [c0, c1], _ =>
    obtain ⟨nm, g1, _, g3⟩ := DataW.trod_string Try.underlying9 e0
    simp at g1
    subst g1
    have e1' : DataW.trod enc Try.prog W 0 (fun _ => true) true k 29 [c1] = some y1 := by simpa [cells29] using e1
    obtain ⟨a, n, c, rfl⟩ : ∃ a n c, c1 = .slice a n c := by
      rcases open_slice Try.underlying29 e1' with ⟨hcs, _⟩ | ⟨b, l, c, m, k, D, Pl, hcs, _⟩
      · simp at hcs; exact ⟨_, _, _, hcs⟩
      · simp at hcs; exact ⟨_, _, _, hcs⟩
    obtain ⟨kf, vf, hn, ht, hs⟩ := tags_open e1'
    obtain ⟨s, rfl, rfl, hsr⟩ := sr_of (tags_nil0 e1') hn ht hs g3
    exact ⟨s, a, c, rfl, hsr⟩
instance : Inhabited Sr := ⟨⟨ba0, []⟩⟩
set_option maxRecDepth 100000 in
theorem sers_open {H : Type} {enc : TypeId × Value → H} {W : World} {base : Nat} {v : Value} {d : DataW H} {p : List MemPlace}
    (h : DataW.Trod enc Try.prog W 0 (fun _ => true) true 22 v d p) (o : Value.okWide Try.prog W .any base 22 v) :
    ∃ a len cap, ∃ X : Nat → Sr, v = .slice a len cap ∧ len ≤ cap ∧ len ≤ maxLen ∧ ∀ i, i < len → ∃ b off, a = some ⟨b, off, none⟩ ∧ b < W.heap.size ∧ SerIn W b (off + i * 2) (X i) := by
  obtain ⟨a, len, cap, rfl⟩ := okWide_slice Try.underlying22 o
  obtain ⟨fuel, hf⟩ := h
  rcases open_slice Try.underlying22 hf with ⟨hcs, _⟩ | ⟨b, l, c, m, n, D, Pl, hcs, _, hl, hm, hmm, hd, hx⟩
  · simp [Value.cells] at hcs
    obtain ⟨rfl, rfl, rfl⟩ := hcs
    exact ⟨none, 0, 0, fun _ => default, rfl, Nat.le_refl _, Nat.zero_le _, fun i hi => absurd hi (by omega)⟩
  · simp [Value.cells] at hcs
    obtain ⟨rfl, rfl, rfl⟩ := hcs
    simp only [if_true] at hmm
    subst hmm
    have hy : ∀ i, i < m → ∃ s : Sr, ∃ bb off, some b = some (⟨bb, off, none⟩ : Addr) ∧ bb < W.heap.size ∧ SerIn W bb (off + i * 2) s := by
      intro i hi
      obtain ⟨cs', h1, h2⟩ := hx i hi
      rw [cells31] at h1
      obtain ⟨_, hcl, hcell⟩ := World.cells?_some h1
      obtain ⟨s, a1, c1, rfl, hsr⟩ := ser_trod h2 hcl
      have k0 := hcell 0 (by omega)
      have k1 := hcell 1 (by omega)
      rw [Go.Deep.add_add] at k0 k1
      have k0' : W.cell? (b.add (i * 2)) = some (.string s.name) := by simpa using k0
      have k1' : W.cell? (b.add (i * 2 + 1)) = some (.slice a1 s.tags.length c1) := by simpa using k1
      have hsp : b.spot = none := by
        obtain ⟨cs0, q1, q2⟩ := hx 0 (by omega)
        rw [cells31] at q1
        obtain ⟨_, ql, qc⟩ := World.cells?_some q1
        have k2 := qc 0 (by omega)
        rw [Go.Deep.add_add] at k2
        match cs0, ql with
        | [c0', c1'], _ =>
        have k3 := World.cell?_spot (v := c0') (by simpa using k2)
        simpa [Addr.add] using k3
      obtain ⟨bb, off, spot⟩ := b
      simp only at hsp
      subst hsp
      have hb := cell_lt k0'
      refine ⟨s, bb, off, rfl, ?_, a1, c1, ?_, ?_, hsr⟩
      · unfold Addr.add at hb; split at hb <;> exact hb
      · rw [← k0']; congr 1; unfold Addr.add; split <;> simp_all
      · rw [← k1']; congr 1
    obtain ⟨f, hf'⟩ := choose_lt hy
    exact ⟨some b, len, m, f, rfl, hl, by unfold maxLen at *; omega, fun i hi => hf' i (by omega)⟩
end Go.Proofs.Ytobcpafalfdpkaa
/- The parts of a name add up; rows of series, cell by cell. No condition. -/
namespace Go.Proofs.Ytobcpafalfdpkaa
open Go.RowKit Go.WideMaps Go.Sort Go.Deep Go.WideShapes Go.ChangeShapes
theorem ser_cell {w : World} {base n c : Nat} {a : Option Addr} {L : List SV} (h : w.ownsRow base 31 2 (.slice a n c) n (svC L)) (hl : L.length = n) {k : Nat} {s : SV} (hk : L[k]? = some s) : ∃ g, a = some ⟨g, 0, none⟩ ∧ w.cell? ⟨g, k * 2, none⟩ = some (.string s.sr.name) ∧ w.cell? ⟨g, k * 2 + 1, none⟩ = some s.sl := by
  obtain ⟨hk', _⟩ := List.getElem?_eq_some_iff.1 hk
  have hc := h
  rcases h.2 with ⟨_, h0⟩ | ⟨g, c', cur, hv, _⟩
  · omega
  · injection hv with e1 e2 e3
    subst e1
    have h0 := flat_at svV 2 (fun _ => rfl) L k 0 s hk (by omega)
    have h1 := flat_at svV 2 (fun _ => rfl) L k 1 s hk (by omega)
    refine ⟨g, rfl, ?_, ?_⟩
    · rw [hc.cellAt (k * 2) (by omega)]; exact h0
    · rw [hc.cellAt (k * 2 + 1) (by omega)]; exact h1
theorem ok_val {s : Sr} (h : s.ok = true) {k v : BA} (hm : (k, v) ∈ s.tags) : v ≠ ⟨#[]⟩ := by
  obtain ⟨i, hi, e⟩ := List.mem_iff_getElem.1 hm
  obtain ⟨_, a2⟩ := kf_get (List.getElem?_eq_getElem hi)
  unfold Sr.ok formedB at h
  simp only [Bool.and_eq_true, List.all_eq_true] at h
  have h1 := h.1 i (by simpa using hi)
  simp only [stepOk, Bool.and_eq_true] at h1
  have h2 := h1.2.1
  rw [a2, e] at h2
  rintro rfl
  simp [nameB] at h2
theorem ok_size {s : Sr} (h : s.ok = true) {k v : BA} (hm : (k, v) ∈ s.tags) : v.size ≤ 64 := by
  obtain ⟨i, hi, e⟩ := List.mem_iff_getElem.1 hm
  obtain ⟨_, a2⟩ := kf_get (List.getElem?_eq_getElem hi)
  unfold Sr.ok formedB at h
  simp only [Bool.and_eq_true, List.all_eq_true] at h
  have h1 := h.1 i (by simpa using hi)
  simp only [stepOk, Bool.and_eq_true] at h1
  have h2 := h1.2.1
  rw [a2, e] at h2
  simp only [nameB, Bool.and_eq_true, decide_eq_true_eq] at h2
  have h3 : v.data.toList.length = v.size := by simp
  have h4 := h2.2.2
  omega
theorem ok_name {s : Sr} (h : s.ok = true) : s.name.size ≤ 64 ∧ s.name ≠ ⟨#[]⟩ := by
  unfold Sr.ok formedB at h
  simp only [Bool.and_eq_true] at h
  have h2 := h.2.1
  simp only [nameB, Bool.and_eq_true, decide_eq_true_eq] at h2
  constructor
  · have h3 : s.name.data.toList.length = s.name.size := by simp
    omega
  · intro e
    rw [e] at h2
    simp at h2
theorem vals_ne {nm : BA} {μ : Me} (h : MeOk nm μ) (hr : Rises μ) {k v : BA} (hv : v ∈ (valsOf μ k).map (·.1)) : v ≠ ⟨#[]⟩ := by
  obtain ⟨p, hp, e⟩ := vals_from h hv (hr.V k) (hr.X k)
  have hok := (h.ser _ hp).1
  exact ok_val hok ((tagOf_iff hok).1 e)
theorem vals_size {nm : BA} {μ : Me} (h : MeOk nm μ) (hr : Rises μ) {k v : BA} (hv : v ∈ (valsOf μ k).map (·.1)) : v.size ≤ 64 := by
  obtain ⟨p, hp, e⟩ := vals_from h hv (hr.V k) (hr.X k)
  have hok := (h.ser _ hp).1
  exact ok_size hok ((tagOf_iff hok).1 e)
theorem texts_in {nm : BA} {μ : Me} (h : MeOk nm μ) {k v t : BA} (ht : t ∈ (textsOf μ k v).map (·.1)) : ∃ sv, get μ.ss t = some sv ∧ (k, v) ∈ sv.sr.tags := by
  refine (h.at_ _ _ _).1 ?_
  unfold At
  rw [get_isSome]; exact ht
theorem texts_sub {nm : BA} {μ : Me} (h : MeOk nm μ) (k v : BA) : ∀ p ∈ textsOf μ k v, (get μ.ss p.1).isSome = true := fun p hp => by
  obtain ⟨sv, h1, _⟩ := texts_in h (List.mem_map_of_mem hp)
  rw [h1]; rfl
theorem with_has {nm : BA} {μ : Me} (h : MeOk nm μ) (hr : Rises μ) {key val : BA} (hne : val ≠ ⟨#[]⟩) {s : Sr} (hs : s ∈ (withT μ key val).map (srOf μ)) : s.tg key = (val, true) ∧ s.name = nm := by
  unfold withT at hs
  rw [if_neg hne] at hs
  obtain ⟨t, ht, rfl⟩ := List.mem_map.1 hs
  obtain ⟨sv, h1, h2⟩ := texts_in h ht
  have hm := get_some h1
  have e : srOf μ t = sv.sr := by unfold srOf; rw [h1]; rfl
  rw [e, tg_get, rising_get (ok_rising (h.ser _ hm).1) h2]
  exact ⟨rfl, (h.ser _ hm).2.2⟩
/-- The sum of the first k. -/
def ps {α : Type} (V : List α) (g : α → Nat) (k : Nat) : Nat := ((V.take k).map g).sum
theorem ps_zero {α : Type} (V : List α) (g : α → Nat) : ps V g 0 = 0 := rfl
theorem ps_succ {α : Type} {V : List α} {g : α → Nat} {k : Nat} {v : α} (h : V[k]? = some v) : ps V g (k + 1) = ps V g k + g v := by
  obtain ⟨hk, he⟩ := List.getElem?_eq_some_iff.1 h
  unfold ps
  rw [List.take_succ_eq_append_getElem hk, he]
  simp
theorem ps_le {α : Type} (V : List α) (g : α → Nat) : ∀ k, ps V g k ≤ (V.map g).sum := fun k => by
  unfold ps
  conv => rhs; rw [← List.take_append_drop k V, List.map_append, List.sum_append_nat]
  omega
theorem ps_all {α : Type} (V : List α) (g : α → Nat) {k : Nat} (h : V.length = k) : ps V g k = (V.map g).sum := by
  unfold ps
  rw [← h, List.take_length]
theorem parts_with {nm : BA} {μ : Me} (h : MeOk nm μ) (hr : Rises μ) (key : BA) : μ.ss.length = (withT μ key ⟨#[]⟩).length + (((valsOf μ key).map (·.1)).map fun v => (withT μ key v).length).sum := by
  rw [parts_all h hr.ss key (hr.V key) (hr.X key)]
  have e1 : (withT μ key ⟨#[]⟩).length = (μ.ss.filter fun p => (tagOf key p).isNone).length := by
    unfold withT pickK
    rw [if_pos rfl, List.length_map]
    congr 1
    exact List.filter_congr fun p _ => noTag_iff key p
  have e2 : ((valsOf μ key).map (·.1)).map (fun v => (withT μ key v).length) = ((valsOf μ key).map (·.1)).map fun v => (textsOf μ key v).length :=
    List.map_congr_left fun v hv => by
      unfold withT
      rw [if_neg (vals_ne h hr hv), List.length_map]
  rw [e1, e2]
theorem withT_len {nm : BA} {μ : Me} (h : MeOk nm μ) (hr : Rises μ) (key v : BA) : (withT μ key v).length ≤ μ.ss.length := by
  unfold withT
  split
  · exact pick_len _ _
  · rw [List.length_map, texts_len h hr.ss (hr.X key v)]
    exact List.length_filter_le ..
theorem names_in {w : World} {ρ : Nat → Option Role} {x m : Nat} {L : List (BA × Nat)} {M : BA → Me} (h : IdxAt w ρ x m L M) {nm : BA} (hn : nm ∈ namesOf L M) : 0 < (meOf L M nm).ss.length := by
  unfold namesOf pickK at hn
  obtain ⟨p, hp, rfl⟩ := List.mem_map.1 hn
  obtain ⟨h1, h2⟩ := List.mem_filter.1 hp
  unfold namePr at h2
  rw [decide_eq_true_eq] at h2
  unfold meOf
  rw [rising_get h.out.rising h1]
  exact h2
theorem Good.lens {w : World} {ρ : Nat → Option Role} {x m : Nat} {L : List (BA × Nat)} {M : BA → Me} {N : Nat} (h : Good w ρ x m L M N) : ∀ p ∈ L, (M p.1).ss.length ≤ N := fun p hp => by
  have := h.ss p.1
  unfold meOf at this
  rw [rising_get h.idx.out.rising hp] at this
  exact this
theorem Good.name {w : World} {ρ : Nat → Option Role} {x m : Nat} {L : List (BA × Nat)} {M : BA → Me} {N : Nat} (h : Good w ρ x m L M N) {nm : BA} (hn : 0 < (meOf L M nm).ss.length) : nm.size ≤ 64 := by
  obtain ⟨p, hp⟩ := List.exists_mem_of_length_pos hn
  obtain ⟨h1, _, h3⟩ := (h.me nm).ser _ hp
  rw [← h3]
  exact (ok_name h1).1
theorem bytes31 : Try.prog.bytesOf 31 = 40 := by kernel_rfl
theorem sers_sized {H : Type} {enc : TypeId × Value → H} {W : World} {a : Option Addr} {len cap : Nat} {d : DataW H} {p : List MemPlace} {ts : List TypeId} {ds : List (DataW H)} {j : Nat}
    (h : DataW.Trod enc Try.prog W 0 (fun _ => true) true 22 (.slice a len cap) d p) (ht : ts[j]? = some 22) (hd' : ds[j]? = some d) (hsz : (DataW.weightsEach Try.prog ts ds).all (· ≤ reachBytes) = true) : len ≤ 3518437208780 := by
  obtain ⟨fuel, hf⟩ := h
  rcases open_slice Try.underlying22 hf with ⟨hcs, _⟩ | ⟨b, l, c, m, n, D, Pl, hcs, _, hl, hm, hmm, hd, hx⟩
  · simp [Value.cells] at hcs
    obtain ⟨rfl, rfl, rfl⟩ := hcs
    exact Nat.zero_le _
  · simp [Value.cells] at hcs
    obtain ⟨rfl, rfl, rfl⟩ := hcs
    simp only [if_true] at hmm
    subst hmm
    injection hd with hd _
    subst hd
    have hs := sized_slice hsz ht hd' Try.underlying22
    rw [bytes31] at hs
    simp only [List.length_map, List.length_range, reachBytes] at hs
    omega
end Go.Proofs.Ytobcpafalfdpkaa
