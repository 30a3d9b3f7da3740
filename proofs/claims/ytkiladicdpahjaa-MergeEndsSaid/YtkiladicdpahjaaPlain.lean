/- Plain facts on levels: the length of the run of equal levels that ends at a place, and the first four equal ones below the top. No program in sight; no condition. -/
import Derived.WalkKit
namespace Go.Proofs.Ytkiladicdpahjaa
/-- how many equal levels end at place k (exclusive) -/
def runLen (lv : Nat → Int) : Nat → Nat
  | 0 => 0
  | k + 1 => if 0 < k ∧ lv k = lv (k - 1) then runLen lv k + 1 else 1
def hit (lv : Nat → Int) (i : Nat) : Bool := decide (lv i < 4) && (decide (lv (i + 1) = lv i) && (decide (lv (i + 2) = lv i) && decide (lv (i + 3) = lv i)))
def firstHit (lv : Nat → Int) (n : Nat) : Option Nat := (List.range (n - 3)).find? (hit lv)
def plan (lv : Nat → Int) (tb : Bool) (n : Nat) : Int × Int × Int :=
  match firstHit lv n with
  | some i => (i, 4, lv i + 1)
  | none => if 2 ≤ n then (0, n, 4) else if n = 1 ∧ tb = true then (0, 1, lv 0) else (0, 0, 0)
def NoHit (lv : Nat → Int) (k : Nat) : Prop := ∀ i, i + 4 ≤ k → hit lv i = false
theorem runLen_le (lv : Nat → Int) : ∀ k, runLen lv k ≤ k
  | 0 => Nat.le_refl 0
  | k + 1 => by
    have := runLen_le lv k
    unfold runLen
    split <;> omega
theorem runLen_same (lv : Nat → Int) : ∀ k j, j < runLen lv (k + 1) → lv (k - j) = lv k
  | 0, j, h => by have := runLen_le lv 1; rw [Nat.zero_add] at h; have : j = 0 := by omega
                  subst this; rfl
  | k + 1, j, h => by
    unfold runLen at h
    split at h
    · rename_i hc
      rcases Nat.eq_zero_or_pos j with rfl | hj
      · rfl
      · have := runLen_same lv k (j - 1) (by omega)
        rw [show k + 1 - j = k - (j - 1) from by omega, this]
        exact hc.2.symm
    · have : j = 0 := by omega
      subst this; rfl
theorem runLen_ge (lv : Nat → Int) : ∀ k m, m ≤ k → (∀ j, j ≤ m → lv (k - j) = lv k) → m + 1 ≤ runLen lv (k + 1)
  | 0, m, h, _ => by have : m = 0 := by omega
                     subst this; simp [runLen]
  | k + 1, m, h, hh => by
    unfold runLen
    rcases Nat.eq_zero_or_pos m with rfl | hm
    · split <;> omega
    · have h1 := hh 1 (by omega)
      rw [if_pos ⟨by omega, h1.symm⟩]
      have := runLen_ge lv k (m - 1) (by omega) (fun j hj => by
        have := hh (j + 1) (by omega)
        rw [show k + 1 - (j + 1) = k - j from by omega] at this
        have h1' : lv k = lv (k + 1) := by simpa using h1
        rw [this, h1'])
      omega
theorem noHit_zero (lv : Nat → Int) : NoHit lv 0 := fun i h => absurd h (by omega)
theorem find_first {p : Nat → Bool} {n i : Nat} (hi : i < n) (hp : p i = true) (hno : ∀ j, j < i → p j = false) : (List.range n).find? p = some i := by
  rw [List.find?_eq_some_iff_getElem]
  refine ⟨hp, i, by simpa using hi, by simp, fun j hj => ?_⟩
  simp [hno j hj]
theorem found (lv : Nat → Int) (k n : Nat) (hk : k < n) (hno : NoHit lv k) (hr : runLen lv (k + 1) = 4) (hl : lv k < 4) : 3 ≤ k ∧ firstHit lv n = some (k - 3) ∧ lv (k - 3) = lv k := by
  have h3 : 3 ≤ k := by have := runLen_le lv (k + 1); omega
  have e1 := runLen_same lv k 1 (by omega)
  have e2 := runLen_same lv k 2 (by omega)
  have e3 := runLen_same lv k 3 (by omega)
  refine ⟨h3, find_first (by omega) ?_ (fun j hj => hno j (by omega)), e3⟩
  unfold hit
  rw [show k - 3 + 1 = k - 2 from by omega, show k - 3 + 2 = k - 1 from by omega, show k - 3 + 3 = k from by omega, e1, e2, e3]
  simp [hl]
theorem passed (lv : Nat → Int) (k : Nat) (hno : NoHit lv k) (hr : ¬ (runLen lv (k + 1) = 4 ∧ lv k < 4)) : NoHit lv (k + 1) := by
  intro i hi
  by_cases h : i + 4 ≤ k
  · exact hno i h
  · have : i = k - 3 := by omega
    subst this
    cases hh : hit lv (k - 3) with
    | false => rfl
    | true =>
      exfalso
      simp only [hit, Bool.and_eq_true, decide_eq_true_eq] at hh
      rw [show k - 3 + 1 = k - 2 from by omega, show k - 3 + 2 = k - 1 from by omega, show k - 3 + 3 = k from by omega] at hh
      obtain ⟨a, b, c, d⟩ := hh
      have g := runLen_ge lv k 3 (by omega) (fun j hj => by
        have : j = 0 ∨ j = 1 ∨ j = 2 ∨ j = 3 := by omega
        rcases this with rfl | rfl | rfl | rfl
        · rfl
        · rw [c, d]
        · rw [b, d]
        · exact d.symm)
      have g5 : 4 < runLen lv (k + 1) := by
        rcases Nat.lt_or_ge 4 (runLen lv (k + 1)) with h | h
        · exact h
        · exact absurd ⟨by omega, by rw [d]; exact a⟩ hr
      have hk4 : 4 ≤ k := by have := runLen_le lv (k + 1); omega
      have e4 := runLen_same lv k 4 g5
      have := hno (k - 4) (by omega)
      simp only [hit] at this
      rw [show k - 4 + 1 = k - 3 from by omega, show k - 4 + 2 = k - 2 from by omega, show k - 4 + 3 = k - 1 from by omega, e4, ← d, b, c, d] at this
      rw [← d] at this
      simp at this
      omega
theorem none_found (lv : Nat → Int) (n : Nat) (hno : NoHit lv n) : firstHit lv n = none := by
  unfold firstHit
  rw [List.find?_eq_none]
  intro i hi
  simp at hi
  simp [hno i (by omega)]
end Go.Proofs.Ytkiladicdpahjaa
