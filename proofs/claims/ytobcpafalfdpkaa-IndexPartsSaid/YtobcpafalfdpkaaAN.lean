/- Forget and SetKind keep a good index good. Condition: the bounds. -/
import Derived.Test.YtobcpafalfdpkaaAM
namespace Go.Proofs.Ytobcpafalfdpkaa
open Go.RowKit Go.WideMaps Go.Sort
theorem meOf_del (L : List (BA × Nat)) (M : BA → Me) (nm : BA) : meOf (del L nm) M nm = me0 := by
  unfold meOf
  rw [get_del, if_pos rfl]
def ForgetGood (w : World) (ρ : Nat → Option Role) (x m : Nat) (L : List (BA × Nat)) (M : BA → Me) (nm : BA) (N : Nat) (e : Ending) (w' : World) : Prop :=
  e = .returned (.int .i64 (meOf L M nm).ss.length) ∧ Good w' ρ x m (del L nm) M N ∧ Step w w' ρ ρ (fun r => r = .outer ∨ r.of nm) ∧ (∀ nm', nm' ≠ nm → meOf (del L nm) M nm' = meOf L M nm')
theorem forget_good {w : World} {ρ : Nat → Option Role} {x m : Nat} {L : List (BA × Nat)} {M : BA → Me} {N : Nat} (h : Good w ρ x m L M N) (hN : N ≤ 3518437208780) (nm : BA) (hn : nm.size ≤ maxLen) :
    Calls Try.prog 26 #[.pointer (some ⟨x, 0, none⟩), .string nm] w (ForgetGood w ρ x m L M nm N) := by
  refine (forget26 h.idx nm hn (by have := h.ss nm; unfold maxLen; omega)).mono ?_
  rintro e w' ⟨he, hch⟩
  refine ⟨he, good_other hch.idx (Nat.le_refl _) (Nat.le_trans (del_len _ _) h.few) h.me h.bd h.ss h.kd hch.other ?_ ?_ ?_ ?_, hch.step, hch.other⟩
  · rw [meOf_del]; exact MeOk.zero nm
  · rw [meOf_del]; exact bdn0.more (Nat.zero_le _)
  · rw [meOf_del]; exact Nat.zero_le _
  · rw [meOf_del]; exact Nat.zero_le _
def SetGood (w : World) (ρ : Nat → Option Role) (x m : Nat) (L : List (BA × Nat)) (M : BA → Me) (nm f : BA) (k : Int) (N : Nat) (e : Ending) (w' : World) : Prop :=
  ∃ ρ' L' M', e = .returned (.int .i64 (skE (get (meOf L M nm).kd f) k)) ∧ Good w' ρ' x m L' M' (N + 1) ∧ Step w w' ρ ρ' (fun r => r = .outer ∨ r.of nm) ∧ (∀ nm', nm' ≠ nm → meOf L' M' nm' = meOf L M nm') ∧ (meOf L' M' nm).ss = (meOf L M nm).ss ∧ (meOf L' M' nm).kd = skD (meOf L M nm).kd f k
theorem MeOk.tags {nm : BA} {μ μ' : Me} (h : MeOk nm μ) (hs : SameTags μ μ') : MeOk nm μ' :=
  ⟨full_congr hs.A hs.V hs.X h.full, by rw [hs.ss]; exact h.ser, fun k v t => by rw [at_congr hs.A hs.V hs.X, hs.ss]; exact h.at_ k v t⟩
theorem set_good {w : World} {ρ : Nat → Option Role} {x m : Nat} {L : List (BA × Nat)} {M : BA → Me} {N : Nat} (h : Good w ρ x m L M N) (hN : N ≤ 3518437208780) (nm f : BA) (k : Int) (hn : nm.size ≤ maxLen) (hf : f.size ≤ maxLen) :
    Calls Try.prog 24 #[.pointer (some ⟨x, 0, none⟩), .string nm, .string f, .int .i64 k] w (SetGood w ρ x m L M nm f k N) := by
  refine (setKind24 h.idx nm f k hn hf (by have := h.few; unfold maxLen; omega) (by have := h.kd nm; unfold maxLen; omega)).mono ?_
  intro e w' hp
  unfold SetPost at hp
  obtain ⟨ρ', L', M', he, hch, hs, hkd⟩ := hp
  refine ⟨ρ', L', M', he, good_other hch.idx (Nat.le_add_right _ 1) (by have := hch.len; have := h.few; omega) h.me h.bd h.ss h.kd hch.other ((h.me _).tags hs) ?_ ?_ ?_, hch.step, hch.other, hs.ss, hkd⟩
  · have hb : BdN (meOf L' M' nm) (24 * N) := ⟨by rw [hs.A]; exact (h.bd nm).A, fun k => by rw [hs.V]; exact (h.bd nm).V k, fun k v => by rw [hs.X]; exact (h.bd nm).X k v⟩
    exact hb.more (by omega)
  · rw [hs.ss]; have := h.ss nm; omega
  · rw [hkd]
    unfold skD
    have h1 := h.kd nm
    by_cases e : skE (get (meOf L M nm).kd f) k = 0
    · rw [if_pos e]; have := put_len (meOf L M nm).kd f k; omega
    · rw [if_neg e]; omega
end Go.Proofs.Ytobcpafalfdpkaa
