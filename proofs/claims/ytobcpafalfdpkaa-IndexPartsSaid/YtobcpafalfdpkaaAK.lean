/- What holds of a name's data between calls, and that Add and Drop keep it. No condition. -/
import Derived.Test.YtobcpafalfdpkaaAJ
import Derived.Test.YtobcpafalfdpkaaAH
namespace Go.Proofs.Ytobcpafalfdpkaa
open Go.RowKit Go.WideMaps Go.Sort
structure MeOk (nm : BA) (μ : Me) : Prop where
  full : Full μ
  ser : ∀ p ∈ μ.ss, p.2.sr.ok = true ∧ p.2.sr.txt = p.1 ∧ p.2.sr.name = nm
  at_ : ∀ k v t, At μ k v t ↔ ∃ sv : SV, get μ.ss t = some sv ∧ (k, v) ∈ sv.sr.tags
theorem MeOk.zero (nm : BA) : MeOk nm me0 := by
  refine ⟨full0, fun _ hp => (nomatch hp), fun k v t => ⟨fun h => ?_, fun ⟨_, h, _⟩ => ?_⟩⟩
  · obtain ⟨kb, _, h1, _⟩ := at_open h
    cases h1
  · cases h
theorem MeOk.add {nm : BA} {μ μ' : Me} {s : Sr} {sv : SV} (h : MeOk nm μ) (hs : s.ok = true) (hnm : s.name = nm) (hno : get μ.ss s.txt = none) (hsv : sv.sr = s) (hss : μ'.ss = put μ.ss s.txt sv) (hf : Full μ')
    (hat : ∀ k v t, At μ' k v t ↔ At μ k v t ∨ (t = s.txt ∧ (k, v) ∈ s.tags)) : MeOk nm μ' := by
  refine ⟨hf, fun p hp => ?_, fun k v t => ?_⟩
  · rw [hss] at hp
    rcases put_mem.1 hp with rfl | ⟨hp, _⟩
    · exact ⟨by rw [hsv]; exact hs, by rw [hsv], by rw [hsv]; exact hnm⟩
    · exact h.ser p hp
  · rw [hat, h.at_, hss, get_put]
    by_cases e : s.txt = t
    · subst e
      rw [if_pos rfl, hno]
      constructor
      · rintro (⟨_, h1, _⟩ | ⟨_, h1⟩)
        · cases h1
        · exact ⟨sv, rfl, by rw [hsv]; exact h1⟩
      · rintro ⟨sv', h1, h2⟩
        cases h1
        exact .inr ⟨rfl, by rw [← hsv]; exact h2⟩
    · rw [if_neg e]
      exact ⟨fun h1 => h1.resolve_right fun h2 => e h2.1.symm, .inl⟩
theorem MeOk.drop {nm : BA} {μ μ' : Me} {s : Sr} {sv : SV} (h : MeOk nm μ) (hin : get μ.ss s.txt = some sv) (hsv : sv.sr = s) (hss : μ'.ss = del μ.ss s.txt) (hf : Full μ')
    (hat : ∀ k v t, At μ' k v t ↔ At μ k v t ∧ ¬ (t = s.txt ∧ (k, v) ∈ s.tags)) : MeOk nm μ' := by
  refine ⟨hf, fun p hp => ?_, fun k v t => ?_⟩
  · rw [hss] at hp
    exact h.ser p (del_mem.1 hp).1
  · rw [hat, h.at_, hss, get_del]
    by_cases e : s.txt = t
    · subst e
      rw [if_pos rfl, hin]
      constructor
      · rintro ⟨⟨sv', h1, h2⟩, h3⟩
        cases h1
        exact absurd ⟨rfl, by rw [← hsv]; exact h2⟩ h3
      · rintro ⟨_, h1, _⟩
        cases h1
    · rw [if_neg e]
      exact ⟨fun h1 => h1.1, fun h1 => ⟨h1, fun h2 => e h2.1.symm⟩⟩
/-- The whole index between calls. -/
structure Good (w : World) (ρ : Nat → Option Role) (x m : Nat) (L : List (BA × Nat)) (M : BA → Me) (N : Nat) : Prop where
  idx : IdxAt w ρ x m L M
  few : L.length ≤ N
  me : ∀ nm, MeOk nm (meOf L M nm)
  bd : ∀ nm, BdN (meOf L M nm) (24 * N)
  ss : ∀ nm, (meOf L M nm).ss.length ≤ N
  kd : ∀ nm, (meOf L M nm).kd.length ≤ N
theorem Good.later {w w' : World} {ρ : Nat → Option Role} {x m : Nat} {L : List (BA × Nat)} {M : BA → Me} {N : Nat} (h : Good w ρ x m L M N) (hb : Below w.heap.size w w') : Good w' ρ x m L M N := ⟨h.idx.below hb, h.few, h.me, h.bd, h.ss, h.kd⟩
theorem Good.more {w : World} {ρ : Nat → Option Role} {x m : Nat} {L : List (BA × Nat)} {M : BA → Me} {N N' : Nat} (h : Good w ρ x m L M N) (hn : N ≤ N') : Good w ρ x m L M N' :=
  ⟨h.idx, Nat.le_trans h.few hn, h.me, fun nm => (h.bd nm).more (by omega), fun nm => Nat.le_trans (h.ss nm) hn, fun nm => Nat.le_trans (h.kd nm) hn⟩
theorem MeOk.same {nm : BA} {μ μ' : Me} (h : MeOk nm μ) (hs : SameMe μ μ') : MeOk nm μ' :=
  ⟨full_congr hs.A hs.V hs.X h.full, by rw [hs.ss]; exact h.ser, fun k v t => by rw [at_congr hs.A hs.V hs.X, hs.ss]; exact h.at_ k v t⟩
theorem new_good {w : World} {ρ : Nat → Option Role} {x m : Nat} (h : IdxAt w ρ x m [] (fun _ => me0)) : Good w ρ x m [] (fun _ => me0) 0 :=
  ⟨h, Nat.le_refl _, fun nm => MeOk.zero nm, fun _ => bdn0, fun _ => Nat.le_refl _, fun _ => Nat.le_refl _⟩
end Go.Proofs.Ytobcpafalfdpkaa
