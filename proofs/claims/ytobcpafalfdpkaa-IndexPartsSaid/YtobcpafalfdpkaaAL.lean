/- Add and Drop keep a good index good. Condition: the bounds. -/
import Derived.Test.YtobcpafalfdpkaaAK
namespace Go.Proofs.Ytobcpafalfdpkaa
open Go.RowKit Go.WideMaps Go.Sort
theorem addA_true {μ : Me} {s : Sr} (h : (addA μ s).1 = true) : s.ok = true ∧ get μ.ss s.txt = none := by
  unfold addA at h
  by_cases h1 : s.ok = true
  · rw [if_pos h1] at h
    cases h2 : get μ.ss s.txt with
    | none => exact ⟨h1, rfl⟩
    | some sv => rw [h2] at h; cases h
  · rw [if_neg h1] at h; cases h
def AddGood (w : World) (ρ : Nat → Option Role) (x m : Nat) (L : List (BA × Nat)) (M : BA → Me) (s : Sr) (N : Nat) (e : Ending) (w' : World) : Prop :=
  ∃ ρ' L' M', e = .returned (.tuple #[.bool (addA (meOf L M s.name) s).1, .int .i64 (addA (meOf L M s.name) s).2]) ∧ Good w' ρ' x m L' M' (N + 1) ∧ Step w w' ρ ρ' (fun r => r = .outer ∨ r.of s.name) ∧
    (∀ nm, nm ≠ s.name → meOf L' M' nm = meOf L M nm) ∧ ((addA (meOf L M s.name) s).1 = false → SameMe (meOf L M s.name) (meOf L' M' s.name)) ∧
    ((addA (meOf L M s.name) s).1 = true → ∃ sv : SV, sv.sr = s ∧ (meOf L' M' s.name).ss = put (meOf L M s.name).ss s.txt sv ∧ (meOf L' M' s.name).kd = (meOf L M s.name).kd)
theorem good_other {w' : World} {ρ' : Nat → Option Role} {x m : Nat} {L L' : List (BA × Nat)} {M M' : BA → Me} {N N' : Nat} {nm : BA} (hi : IdxAt w' ρ' x m L' M') (hN : N ≤ N') (hl : L'.length ≤ N')
    (hme : ∀ nm, MeOk nm (meOf L M nm)) (hbd : ∀ nm, BdN (meOf L M nm) (24 * N)) (hss : ∀ nm, (meOf L M nm).ss.length ≤ N) (hkd : ∀ nm, (meOf L M nm).kd.length ≤ N) (ho : ∀ nm', nm' ≠ nm → meOf L' M' nm' = meOf L M nm')
    (h1 : MeOk nm (meOf L' M' nm)) (h2 : BdN (meOf L' M' nm) (24 * N')) (h3 : (meOf L' M' nm).ss.length ≤ N') (h4 : (meOf L' M' nm).kd.length ≤ N') : Good w' ρ' x m L' M' N' := by
  refine ⟨hi, hl, fun n => ?_, fun n => ?_, fun n => ?_, fun n => ?_⟩
  all_goals
    by_cases e : n = nm
    · subst e; assumption
    · rw [ho n e]
      first
        | exact hme n
        | exact (hbd n).more (by omega)
        | exact Nat.le_trans (hss n) hN
        | exact Nat.le_trans (hkd n) hN
theorem SameMe.bd {μ μ' : Me} {N : Nat} (h : SameMe μ μ') (hb : BdN μ N) : BdN μ' N := ⟨by rw [h.A]; exact hb.A, fun k => by rw [h.V]; exact hb.V k, fun k v => by rw [h.X]; exact hb.X k v⟩
theorem add_good {w : World} {ρ : Nat → Option Role} {x m : Nat} {L : List (BA × Nat)} {M : BA → Me} {N : Nat} (h : Good w ρ x m L M N) (hN : N ≤ 3518437208780) {v : Value} {s : Sr} (hv : SrIn w v s) (hf : FreeV ρ v) :
    Calls Try.prog 9 #[.pointer (some ⟨x, 0, none⟩), v] w (AddGood w ρ x m L M s N) := by
  refine (add9 h.idx hv hf (by have := h.few; omega) (N := 24 * N) (by omega) (h.bd _) (by have := h.ss s.name; unfold maxLen; omega) (h.me _).full).mono ?_
  intro e w' hp
  unfold AddPost at hp
  obtain ⟨ρ', L', M', he, hch, hno, hyes⟩ := hp
  refine ⟨ρ', L', M', he, ?_, hch.step, hch.other, hno, fun ht => ?_⟩
  · have hl : L'.length ≤ N + 1 := by have := hch.len; have := h.few; omega
    cases ha : (addA (meOf L M s.name) s).1 with
    | false =>
      have hs := hno ha
      exact good_other hch.idx (by omega) hl h.me h.bd h.ss h.kd hch.other ((h.me _).same hs) ((hs.bd (h.bd _)).more (by omega)) (by rw [hs.ss]; have := h.ss s.name; omega) (by rw [hs.kd]; have := h.kd s.name; omega)
    | true =>
      obtain ⟨sv, hsv, hss, hkd, hfu, hbd, hat⟩ := hyes ha
      obtain ⟨hok, hnone⟩ := addA_true ha
      exact good_other hch.idx (by omega) hl h.me h.bd h.ss h.kd hch.other ((h.me _).add hok rfl hnone hsv hss hfu hat) hbd (by rw [hss]; have := put_len (meOf L M s.name).ss s.txt sv; have := h.ss s.name; omega) (by rw [hkd]; have := h.kd s.name; omega)
  · obtain ⟨sv, hsv, hss, hkd, _⟩ := hyes ht
    exact ⟨sv, hsv, hss, hkd⟩
end Go.Proofs.Ytobcpafalfdpkaa
