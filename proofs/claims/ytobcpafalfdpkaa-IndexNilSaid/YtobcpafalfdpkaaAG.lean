/- What a drop leaves, plain; a name's block got where it lies. No condition. -/
import Derived.Test.YtobcpafalfdpkaaAE
namespace Go.Proofs.Ytobcpafalfdpkaa
open Go.RowKit Go.WideMaps Go.Sort
theorem at_open {μ : Me} {k v t : BA} (h : At μ k v t) : ∃ kb vb, get μ.A k = some kb ∧ get (μ.V k) v = some vb ∧ (get (μ.X k v) t).isSome = true := by
  unfold At at h
  cases hA : get μ.A k with
  | none =>
    rw [texts_none (by rw [vals_none hA]; rfl)] at h
    exact absurd h (by simp [get])
  | some kb =>
    cases hV : get (μ.V k) v with
    | none =>
      rw [texts_none (by rw [vals_some hA]; exact hV)] at h
      exact absurd h (by simp [get])
    | some vb =>
      rw [texts_some (by rw [vals_some hA]; exact hV)] at h
      exact ⟨kb, vb, rfl, rfl, h⟩
def FullV (μ : Me) (k : BA) : Prop := (∀ p ∈ μ.A, p.1 ≠ k → μ.V p.1 ≠ []) ∧ ∀ p ∈ μ.A, ∀ q ∈ μ.V p.1, μ.X p.1 q.1 ≠ []
theorem fullV_lessText {μ : Me} (h : Full μ) {k v t : BA} (hne : del (μ.X k v) t ≠ []) : FullV (lessText μ k v t) k := by
  refine ⟨fun p hp _ => h.1 p hp, fun p hp q hq => ?_⟩
  simp only [lessText]
  by_cases e : p.1 = k ∧ q.1 = v
  · rw [e.1, e.2, updF2_same]; exact hne
  · rw [updF2_other e]; exact h.2 p hp q hq
theorem fullV_lessVal {μ : Me} (h : Full μ) {k v t : BA} : FullV (lessVal (lessText μ k v t) k v) k := by
  refine ⟨fun p hp hne => ?_, fun p hp q hq => ?_⟩
  · simp only [lessVal, lessText]
    rw [updF_other hne]
    exact h.1 p hp
  · simp only [lessVal, lessText] at hq ⊢
    by_cases e : p.1 = k
    · rw [e, updF_same] at hq
      obtain ⟨h1, h2⟩ := del_mem.1 hq
      rw [updF2_other (fun e3 => h2 e3.2)]
      rw [← e] at h1
      exact h.2 p hp q h1
    · rw [updF_other e] at hq
      rw [updF2_other (fun e3 => e e3.1)]
      exact h.2 p hp q hq
theorem FullV.full {μ : Me} {k : BA} (h : FullV μ k) (hne : μ.V k ≠ []) : Full μ := ⟨fun p hp => by
  by_cases e : p.1 = k
  · rw [e]; exact hne
  · exact h.1 p hp e, h.2⟩
theorem FullV.less {μ : Me} {k : BA} (h : FullV μ k) : Full (lessKey μ k) := ⟨fun p hp => h.1 p (del_mem.1 hp).1 (del_mem.1 hp).2, fun p hp => h.2 p (del_mem.1 hp).1⟩
theorem del_len {α : Type} (L : List (BA × α)) (s : BA) : (del L s).length ≤ L.length := List.length_filter_le ..
theorem bd_lessText {μ : Me} {n : Nat} (h : BdN μ n) (k v t : BA) : BdN (lessText μ k v t) n := by
  refine ⟨h.A, h.V, fun a b => ?_⟩
  simp only [lessText]
  by_cases e : a = k ∧ b = v
  · rw [e.1, e.2, updF2_same]; exact Nat.le_trans (del_len _ _) (h.X k v)
  · rw [updF2_other e]; exact h.X a b
theorem bd_lessVal {μ : Me} {n : Nat} (h : BdN μ n) (k v : BA) : BdN (lessVal μ k v) n := by
  refine ⟨h.A, fun k' => ?_, h.X⟩
  simp only [lessVal]
  by_cases e : k' = k
  · rw [e, updF_same]; exact Nat.le_trans (del_len _ _) (h.V k)
  · rw [updF_other e]; exact h.V k'
theorem bd_lessKey {μ : Me} {n : Nat} (h : BdN μ n) (k : BA) : BdN (lessKey μ k) n := ⟨Nat.le_trans (del_len _ _) h.A, h.V, h.X⟩
theorem Mst.lenV {w9 w : World} {ρ9 ρ : Nat → Option Role} {nm : BA} {b : Nat} {μ : Me} (h : Mst w9 ρ9 nm b w ρ μ) {k : BA} {kb : Nat} (hg : get μ.A k = some kb) (ty : TypeId) : (Builtin.len_ #[74] ty #[.map (some kb)]).run Try.prog w = .ok (.int .i64 (μ.V k).length) w :=
  (h.me.key _ (get_some hg)).2.len Try.underlying74 ty
theorem Mst.lenX {w9 w : World} {ρ9 ρ : Nat → Option Role} {nm : BA} {b : Nat} {μ : Me} (h : Mst w9 ρ9 nm b w ρ μ) {k v : BA} {kb vb : Nat} (hg : get μ.A k = some kb) (hv : get (μ.V k) v = some vb) (ty : TypeId) : (Builtin.len_ #[75] ty #[.map (some vb)]).run Try.prog w = .ok (.int .i64 (μ.X k v).length) w :=
  (h.me.val _ (get_some hg) _ (get_some hv)).2.len Try.underlying75 ty
theorem len_zero {α : Type} (L : List α) : (((L.length : Nat) : Int) == 0) = decide (L = []) := by
  cases L with
  | nil => rfl
  | cons a l =>
    rw [decide_eq_false (by simp)]
    simp
    omega
theorem drop_at {μ μ9 : Me} {txt : BA} {tags : List (BA × BA)} {k : Nat} {p : BA × BA} (hat : ∀ k' v t, At μ k' v t ↔ At μ9 k' v t ∧ ¬ (t = txt ∧ (k', v) ∈ tags.take k)) (hp : tags[k]? = some p) (k' v t : BA) :
    (At μ k' v t ∧ ¬ (k' = p.1 ∧ v = p.2 ∧ t = txt)) ↔ At μ9 k' v t ∧ ¬ (t = txt ∧ (k', v) ∈ tags.take (k + 1)) := by
  obtain ⟨hk9, he9⟩ := List.getElem?_eq_some_iff.1 hp
  rw [hat, List.take_succ_eq_append_getElem hk9, he9, List.mem_append, List.mem_singleton]
  constructor
  · rintro ⟨⟨h1, h2⟩, h3⟩
    refine ⟨h1, fun ⟨h4, h5⟩ => ?_⟩
    rcases h5 with h5 | h5
    · exact h2 ⟨h4, h5⟩
    · exact h3 ⟨congrArg Prod.fst h5, congrArg Prod.snd h5, h4⟩
  · rintro ⟨h1, h2⟩
    exact ⟨⟨h1, fun ⟨h4, h5⟩ => h2 ⟨h4, .inl h5⟩⟩, fun ⟨h3, h4, h5⟩ => h2 ⟨h5, .inr (by rw [h3, h4])⟩⟩
theorem nodup_at {tags : List (BA × BA)} (hn : tags.Nodup) {k : Nat} {p : BA × BA} (hp : tags[k]? = some p) : p ∉ tags.take k := by
  intro hm
  obtain ⟨hk9, he9⟩ := List.getElem?_eq_some_iff.1 hp
  obtain ⟨i, hi, e⟩ := List.mem_iff_getElem.1 hm
  rw [List.getElem_take] at e
  have hik : i < k := by simp at hi; omega
  exact absurd ((List.getElem_inj hn).1 (e.trans he9.symm)) (by omega)
set_option maxRecDepth 100000 in
theorem get32at {w : World} {ρ : Nat → Option Role} {x m : Nat} {L : List (BA × Nat)} {M : BA → Me} (h : IdxAt w ρ x m L M) (nm : BA) (hn : nm.size ≤ maxLen) {b : Nat} (hg : get L nm = some b) : Calls Try.prog 32 #[.pointer (some ⟨x, 0, none⟩), .string nm] w fun e w' => e = .returned (.pointer (some ⟨b, 0, none⟩)) ∧ w = w' := by
  have hb := h.blk
  have c0 : w.cell? ⟨x, 0, none⟩ = some (.map (some m)) := by simp [World.cell?, hb]
  have hl := h.look nm hn
  unfold getV at hl
  rw [hg] at hl
  have hl' : (Instr.lookup 60 (.map (some m)) (.string nm) false).run Try.prog w = .ok (.pointer (some ⟨b, 0, none⟩)) w := hl
  clear hb hg h hl
  go_enter Try.func32, Try.ntmps32
  go_wp2_with fail
  go_ret
  exact ⟨rfl, rfl⟩
theorem ok_tx {s : Sr} (h : s.ok = true) : s.tx = (s.txt, 0) := by
  unfold Sr.ok at h
  unfold Sr.tx textB Sr.txt
  rw [if_pos h]
theorem no_tx {s : Sr} (h : s.ok = false) : s.tx = (⟨#[]⟩, 1) := by
  unfold Sr.ok at h
  unfold Sr.tx textB
  rw [if_neg (by rw [h]; simp)]
theorem ok_few {s : Sr} (h : s.ok = true) : s.tags.length ≤ 8 := (formed_parts h).2.1
theorem txt_size {s : Sr} (h : s.ok = true) : s.txt.size ≤ 2300 := by
  have h1 := textTo_le h (Nat.le_refl s.tags.length)
  have h2 := ok_few h
  have : s.txt.size = (textTo s.name s.kf s.vf s.tags.length).length := by unfold Sr.txt; simp [ByteArray.size]
  omega
theorem look68ok {w : World} {a : Option Nat} {L : List (BA × SV)} (h : MapO w serK a L) (s : BA) (hs : s.size ≤ maxLen) : (Instr.lookup 68 (.map a) (.string s) true).run Try.prog w = .ok (.tuple #[getV serK L s sv0.val, .bool (get L s).isSome]) w :=
  h.look_ok Try.underlying68 (zero31 w) (zd := sv0.d) (serE_of sv0) (fun _ _ => serE_inv) s hs
theorem once {P Q : Prop} (h : RowKit.Hid P → Q) (k : P) : Q := h (Lib.hid k)
end Go.Proofs.Ytobcpafalfdpkaa
