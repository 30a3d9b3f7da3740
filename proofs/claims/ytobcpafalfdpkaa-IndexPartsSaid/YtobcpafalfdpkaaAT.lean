/- The parts of a name add up; rows of series, cell by cell. No condition. -/
import Derived.Test.YtobcpafalfdpkaaAS
import Derived.SizedLaws
namespace Go.Proofs.Ytobcpafalfdpkaa
open Go.RowKit Go.WideMaps Go.Sort Go.Deep Go.WideShapes Go.ChangeShapes
theorem ser_cell {w : World} {base n c : Nat} {a : Option Addr} {L : List SV} (h : w.ownsRow base 31 2 (.slice a n c) n (svC L)) (hl : L.length = n) {k : Nat} {s : SV} (hk : L[k]? = some s) : ∃ g, a = some ⟨g, 0, none⟩ ∧ w.cell? ⟨g, k * 2, none⟩ = some (.string s.sr.name) ∧ w.cell? ⟨g, k * 2 + 1, none⟩ = some s.sl := by
  obtain ⟨hk', _⟩ := List.getElem?_eq_some_iff.1 hk
  have hc := h
  rcases h.2 with ⟨_, h0⟩ | ⟨g, c', cur, hv, _⟩
  · omega
  · injection hv with e1 e2 e3
    subst e1
    have h0 := flat_at svV 2 (fun _ => rfl) L k 0 s hk (by omega)
    have h1 := flat_at svV 2 (fun _ => rfl) L k 1 s hk (by omega)
    refine ⟨g, rfl, ?_, ?_⟩
    · rw [hc.cellAt (k * 2) (by omega)]; exact h0
    · rw [hc.cellAt (k * 2 + 1) (by omega)]; exact h1
theorem ok_val {s : Sr} (h : s.ok = true) {k v : BA} (hm : (k, v) ∈ s.tags) : v ≠ ⟨#[]⟩ := by
  obtain ⟨i, hi, e⟩ := List.mem_iff_getElem.1 hm
  obtain ⟨_, a2⟩ := kf_get (List.getElem?_eq_getElem hi)
  unfold Sr.ok formedB at h
  simp only [Bool.and_eq_true, List.all_eq_true] at h
  have h1 := h.1 i (by simpa using hi)
  simp only [stepOk, Bool.and_eq_true] at h1
  have h2 := h1.2.1
  rw [a2, e] at h2
  rintro rfl
  simp [nameB] at h2
theorem ok_size {s : Sr} (h : s.ok = true) {k v : BA} (hm : (k, v) ∈ s.tags) : v.size ≤ 64 := by
  obtain ⟨i, hi, e⟩ := List.mem_iff_getElem.1 hm
  obtain ⟨_, a2⟩ := kf_get (List.getElem?_eq_getElem hi)
  unfold Sr.ok formedB at h
  simp only [Bool.and_eq_true, List.all_eq_true] at h
  have h1 := h.1 i (by simpa using hi)
  simp only [stepOk, Bool.and_eq_true] at h1
  have h2 := h1.2.1
  rw [a2, e] at h2
  simp only [nameB, Bool.and_eq_true, decide_eq_true_eq] at h2
  have h3 : v.data.toList.length = v.size := by simp
  have h4 := h2.2.2
  omega
theorem ok_name {s : Sr} (h : s.ok = true) : s.name.size ≤ 64 ∧ s.name ≠ ⟨#[]⟩ := by
  unfold Sr.ok formedB at h
  simp only [Bool.and_eq_true] at h
  have h2 := h.2.1
  simp only [nameB, Bool.and_eq_true, decide_eq_true_eq] at h2
  constructor
  · have h3 : s.name.data.toList.length = s.name.size := by simp
    omega
  · intro e
    rw [e] at h2
    simp at h2
theorem vals_ne {nm : BA} {μ : Me} (h : MeOk nm μ) (hr : Rises μ) {k v : BA} (hv : v ∈ (valsOf μ k).map (·.1)) : v ≠ ⟨#[]⟩ := by
  obtain ⟨p, hp, e⟩ := vals_from h hv (hr.V k) (hr.X k)
  have hok := (h.ser _ hp).1
  exact ok_val hok ((tagOf_iff hok).1 e)
theorem vals_size {nm : BA} {μ : Me} (h : MeOk nm μ) (hr : Rises μ) {k v : BA} (hv : v ∈ (valsOf μ k).map (·.1)) : v.size ≤ 64 := by
  obtain ⟨p, hp, e⟩ := vals_from h hv (hr.V k) (hr.X k)
  have hok := (h.ser _ hp).1
  exact ok_size hok ((tagOf_iff hok).1 e)
theorem texts_in {nm : BA} {μ : Me} (h : MeOk nm μ) {k v t : BA} (ht : t ∈ (textsOf μ k v).map (·.1)) : ∃ sv, get μ.ss t = some sv ∧ (k, v) ∈ sv.sr.tags := by
  refine (h.at_ _ _ _).1 ?_
  unfold At
  rw [get_isSome]; exact ht
theorem texts_sub {nm : BA} {μ : Me} (h : MeOk nm μ) (k v : BA) : ∀ p ∈ textsOf μ k v, (get μ.ss p.1).isSome = true := fun p hp => by
  obtain ⟨sv, h1, _⟩ := texts_in h (List.mem_map_of_mem hp)
  rw [h1]; rfl
theorem with_has {nm : BA} {μ : Me} (h : MeOk nm μ) (hr : Rises μ) {key val : BA} (hne : val ≠ ⟨#[]⟩) {s : Sr} (hs : s ∈ (withT μ key val).map (srOf μ)) : s.tg key = (val, true) ∧ s.name = nm := by
  unfold withT at hs
  rw [if_neg hne] at hs
  obtain ⟨t, ht, rfl⟩ := List.mem_map.1 hs
  obtain ⟨sv, h1, h2⟩ := texts_in h ht
  have hm := get_some h1
  have e : srOf μ t = sv.sr := by unfold srOf; rw [h1]; rfl
  rw [e, tg_get, rising_get (ok_rising (h.ser _ hm).1) h2]
  exact ⟨rfl, (h.ser _ hm).2.2⟩
/-- The sum of the first k. -/
def ps {α : Type} (V : List α) (g : α → Nat) (k : Nat) : Nat := ((V.take k).map g).sum
theorem ps_zero {α : Type} (V : List α) (g : α → Nat) : ps V g 0 = 0 := rfl
theorem ps_succ {α : Type} {V : List α} {g : α → Nat} {k : Nat} {v : α} (h : V[k]? = some v) : ps V g (k + 1) = ps V g k + g v := by
  obtain ⟨hk, he⟩ := List.getElem?_eq_some_iff.1 h
  unfold ps
  rw [List.take_succ_eq_append_getElem hk, he]
  simp
theorem ps_le {α : Type} (V : List α) (g : α → Nat) : ∀ k, ps V g k ≤ (V.map g).sum := fun k => by
  unfold ps
  conv => rhs; rw [← List.take_append_drop k V, List.map_append, List.sum_append_nat]
  omega
theorem ps_all {α : Type} (V : List α) (g : α → Nat) {k : Nat} (h : V.length = k) : ps V g k = (V.map g).sum := by
  unfold ps
  rw [← h, List.take_length]
theorem parts_with {nm : BA} {μ : Me} (h : MeOk nm μ) (hr : Rises μ) (key : BA) : μ.ss.length = (withT μ key ⟨#[]⟩).length + (((valsOf μ key).map (·.1)).map fun v => (withT μ key v).length).sum := by
  rw [parts_all h hr.ss key (hr.V key) (hr.X key)]
  have e1 : (withT μ key ⟨#[]⟩).length = (μ.ss.filter fun p => (tagOf key p).isNone).length := by
    unfold withT pickK
    rw [if_pos rfl, List.length_map]
    congr 1
    exact List.filter_congr fun p _ => noTag_iff key p
  have e2 : ((valsOf μ key).map (·.1)).map (fun v => (withT μ key v).length) = ((valsOf μ key).map (·.1)).map fun v => (textsOf μ key v).length :=
    List.map_congr_left fun v hv => by
      unfold withT
      rw [if_neg (vals_ne h hr hv), List.length_map]
  rw [e1, e2]
theorem withT_len {nm : BA} {μ : Me} (h : MeOk nm μ) (hr : Rises μ) (key v : BA) : (withT μ key v).length ≤ μ.ss.length := by
  unfold withT
  split
  · exact pick_len _ _
  · rw [List.length_map, texts_len h hr.ss (hr.X key v)]
    exact List.length_filter_le ..
theorem names_in {w : World} {ρ : Nat → Option Role} {x m : Nat} {L : List (BA × Nat)} {M : BA → Me} (h : IdxAt w ρ x m L M) {nm : BA} (hn : nm ∈ namesOf L M) : 0 < (meOf L M nm).ss.length := by
  unfold namesOf pickK at hn
  obtain ⟨p, hp, rfl⟩ := List.mem_map.1 hn
  obtain ⟨h1, h2⟩ := List.mem_filter.1 hp
  unfold namePr at h2
  rw [decide_eq_true_eq] at h2
  unfold meOf
  rw [rising_get h.out.rising h1]
  exact h2
theorem Good.lens {w : World} {ρ : Nat → Option Role} {x m : Nat} {L : List (BA × Nat)} {M : BA → Me} {N : Nat} (h : Good w ρ x m L M N) : ∀ p ∈ L, (M p.1).ss.length ≤ N := fun p hp => by
  have := h.ss p.1
  unfold meOf at this
  rw [rising_get h.idx.out.rising hp] at this
  exact this
theorem Good.name {w : World} {ρ : Nat → Option Role} {x m : Nat} {L : List (BA × Nat)} {M : BA → Me} {N : Nat} (h : Good w ρ x m L M N) {nm : BA} (hn : 0 < (meOf L M nm).ss.length) : nm.size ≤ 64 := by
  obtain ⟨p, hp⟩ := List.exists_mem_of_length_pos hn
  obtain ⟨h1, _, h3⟩ := (h.me nm).ser _ hp
  rw [← h3]
  exact (ok_name h1).1
theorem bytes31 : Try.prog.bytesOf 31 = 40 := by kernel_rfl
theorem sers_sized {H : Type} {enc : TypeId × Value → H} {W : World} {a : Option Addr} {len cap : Nat} {d : DataW H} {p : List MemPlace} {ts : List TypeId} {ds : List (DataW H)} {j : Nat}
    (h : DataW.Trod enc Try.prog W 0 (fun _ => true) true 22 (.slice a len cap) d p) (ht : ts[j]? = some 22) (hd' : ds[j]? = some d) (hsz : (DataW.weightsEach Try.prog ts ds).all (· ≤ reachBytes) = true) : len ≤ 3518437208780 := by
  obtain ⟨fuel, hf⟩ := h
  rcases open_slice Try.underlying22 hf with ⟨hcs, _⟩ | ⟨b, l, c, m, n, D, Pl, hcs, _, hl, hm, hmm, hd, hx⟩
  · simp [Value.cells] at hcs
    obtain ⟨rfl, rfl, rfl⟩ := hcs
    exact Nat.zero_le _
  · simp [Value.cells] at hcs
    obtain ⟨rfl, rfl, rfl⟩ := hcs
    simp only [if_true] at hmm
    subst hmm
    injection hd with hd _
    subst hd
    have hs := sized_slice hsz ht hd' Try.underlying22
    rw [bytes31] at hs
    simp only [List.length_map, List.length_range, reachBytes] at hs
    omega
end Go.Proofs.Ytobcpafalfdpkaa
