/- The sums of shifted rows, as plain facts: four noughts ahead leave a row's sum as it is, one nought ahead turns it by a quarter. Condition: every place of the row is a finite number of 64 bits. -/
import Derived.Test.YtogiollmghnoaaaB
import Derived.Test.YtogiollmghnoaaaFloat2
namespace Go.Proofs.Ytogiollmghnoaaa
theorem add00 : Ieee.double.add 0 0 = some 0 := by kernel_rfl
theorem neg0 : neg 0 = 9223372036854775808 := by kernel_rfl
theorem add0n : Ieee.double.add 0 9223372036854775808 = some 0 := by kernel_rfl
theorem four_head {xs : List Nat} {re im : Nat} (h : SumR (0 :: 0 :: 0 :: 0 :: xs) 4 re im) : re = 0 ∧ im = 0 := by
  obtain ⟨a, b, ⟨c, d, ⟨e, f, ⟨g, i, ⟨rfl, rfl⟩, h1⟩, h2⟩, h3⟩, h4⟩ := h
  simp only [stepR, addR, List.getD_cons_zero, List.getD_cons_succ, add00, neg0] at h1 h2 h3 h4
  obtain ⟨rfl, rfl⟩ := h1
  simp only [add00] at h2
  obtain ⟨rfl, rfl⟩ := h2
  simp only [add0n] at h3
  obtain ⟨rfl, rfl⟩ := h3
  simp only [add0n] at h4
  exact h4
theorem four_sum' {xs : List Nat} : ∀ (k re im : Nat), SumR (0 :: 0 :: 0 :: 0 :: xs) (k + 4) re im → SumR xs k re im
  | 0, re, im, h => four_head h
  | k + 1, re, im, h => by
    obtain ⟨a, b, h1, h2⟩ := h
    refine ⟨a, b, four_sum' k a b h1, ?_⟩
    have e1 : (k + 4) % 4 = k % 4 := by omega
    have e2 : (0 :: 0 :: 0 :: 0 :: xs).getD (k + 4) 0 = xs.getD k 0 := by simp [List.getD]
    have h3 : stepR ((k + 4) % 4) a b ((0 :: 0 :: 0 :: 0 :: xs).getD (k + 4) 0) re im := h2
    rwa [e1, e2] at h3
theorem read0 : Ieee.double.read 0 = .number false 0 Ieee.double.leastPlace := by decide +kernel
theorem zero_num : isNum (Ieee.double.read 0) := by rw [read0]; trivial
theorem one_sum {xs : List Nat} (hf : ∀ i, isNum (Ieee.double.read (xs.getD i 0)) ∧ xs.getD i 0 < 2 ^ 64) : ∀ (k a b c d : Nat), SumR xs k a b → SumR (0 :: xs) (k + 1) c d → Rel true c b ∧ Rel false d a ∧ Rel false a a ∧ Rel false b b
  | 0, a, b, c, d, h, h' => by
    obtain ⟨rfl, rfl⟩ := h
    obtain ⟨e, f, ⟨rfl, rfl⟩, h1⟩ := h'
    simp only [stepR, addR, List.getD_cons_zero, add00] at h1
    obtain ⟨rfl, rfl⟩ := h1
    have hz := Rel.self zero_num
    have hz' : Rel true 0 0 := by
      unfold Rel
      rw [read0]
      exact ⟨rfl, rfl, .inl rfl⟩
    exact ⟨hz', hz, hz, hz⟩
  | k + 1, a, b, c, d, h, h' => by
    obtain ⟨a0, b0, h1, h2⟩ := h
    obtain ⟨c0, d0, h1', h2'⟩ := h'
    obtain ⟨r1, r2, r3, r4⟩ := one_sum hf k a0 b0 c0 d0 h1 h1'
    have e2 : (0 :: xs).getD (k + 1) 0 = xs.getD k 0 := by simp [List.getD]
    have h3 : stepR ((k + 1) % 4) c0 d0 ((0 :: xs).getD (k + 1) 0) c d := h2'
    rw [e2] at h3
    obtain ⟨hn, hlt⟩ := hf k
    generalize xs.getD k 0 = v at *
    have hneg : Ieee.double.read (neg v) = (Ieee.double.read v).opposite := read_neg hlt
    have hnn : isNum (Ieee.double.read (neg v)) := by rw [hneg]; cases hv : Ieee.double.read v <;> rw [hv] at hn <;> trivial
    have q1 : Rel false v v := Rel.self hn
    have q2 : Rel false (neg v) (neg v) := Rel.self hnn
    have q3 : Rel true (neg v) v := by unfold Rel; rw [hneg]; exact relD_opp' hn
    have q4 : Rel true v (neg v) := by unfold Rel; rw [hneg]; exact relD_opp hn
    have hq : k % 4 = 0 ∨ k % 4 = 1 ∨ k % 4 = 2 ∨ k % 4 = 3 := by omega
    rcases hq with e | e | e | e
    · rw [e] at h2; rw [show (k + 1) % 4 = 1 from by omega] at h3
      obtain ⟨x, rfl⟩ := h2; obtain ⟨rfl, y⟩ := h3
      exact ⟨r1, addR_rel r2 q1 hn y x, addR_rel r3 q1 hn x x, r4⟩
    · rw [e] at h2; rw [show (k + 1) % 4 = 2 from by omega] at h3
      obtain ⟨rfl, x⟩ := h2; obtain ⟨y, rfl⟩ := h3
      exact ⟨addR_rel r1 q3 hnn y x, r2, r3, addR_rel r4 q1 hn x x⟩
    · rw [e] at h2; rw [show (k + 1) % 4 = 3 from by omega] at h3
      obtain ⟨x, rfl⟩ := h2; obtain ⟨rfl, y⟩ := h3
      exact ⟨r1, addR_rel r2 q2 hnn y x, addR_rel r3 q2 hnn x x, r4⟩
    · rw [e] at h2; rw [show (k + 1) % 4 = 0 from by omega] at h3
      obtain ⟨rfl, x⟩ := h2; obtain ⟨y, rfl⟩ := h3
      exact ⟨addR_rel r1 q4 hn y x, r2, r3, addR_rel r4 q2 hnn x x⟩
theorem sum_lt {xs : List Nat} : ∀ (k a b : Nat), SumR xs k a b → (isN a ∨ a < 2 ^ 64) ∧ (isN b ∨ b < 2 ^ 64)
  | 0, a, b, h => by obtain ⟨rfl, rfl⟩ := h; exact ⟨.inr (by omega), .inr (by omega)⟩
  | k + 1, a, b, h => by
    obtain ⟨a0, b0, h1, h2⟩ := h
    have ih := sum_lt k a0 b0 h1
    have hq : k % 4 = 0 ∨ k % 4 = 1 ∨ k % 4 = 2 ∨ k % 4 = 3 := by omega
    rcases hq with e | e | e | e <;> rw [e] at h2
    · obtain ⟨x, rfl⟩ := h2; exact ⟨addR_lt x, ih.2⟩
    · obtain ⟨rfl, x⟩ := h2; exact ⟨ih.1, addR_lt x⟩
    · obtain ⟨x, rfl⟩ := h2; exact ⟨addR_lt x, ih.2⟩
    · obtain ⟨rfl, x⟩ := h2; exact ⟨ih.1, addR_lt x⟩
theorem self_rel {xs : List Nat} (hf : ∀ i, isNum (Ieee.double.read (xs.getD i 0)) ∧ xs.getD i 0 < 2 ^ 64) : ∀ (k a b : Nat), SumR xs k a b → Rel false a a ∧ Rel false b b
  | 0, a, b, h => by obtain ⟨rfl, rfl⟩ := h; exact ⟨Rel.self zero_num, Rel.self zero_num⟩
  | k + 1, a, b, h => by
    obtain ⟨a0, b0, h1, h2⟩ := h
    obtain ⟨r3, r4⟩ := self_rel hf k a0 b0 h1
    obtain ⟨hn, hlt⟩ := hf k
    generalize xs.getD k 0 = v at *
    have hneg : Ieee.double.read (neg v) = (Ieee.double.read v).opposite := read_neg hlt
    have hnn : isNum (Ieee.double.read (neg v)) := by rw [hneg]; cases hv : Ieee.double.read v <;> rw [hv] at hn <;> trivial
    have hq : k % 4 = 0 ∨ k % 4 = 1 ∨ k % 4 = 2 ∨ k % 4 = 3 := by omega
    rcases hq with e | e | e | e <;> rw [e] at h2
    · obtain ⟨x, rfl⟩ := h2; exact ⟨addR_rel r3 (Rel.self hn) hn x x, r4⟩
    · obtain ⟨rfl, x⟩ := h2; exact ⟨r3, addR_rel r4 (Rel.self hn) hn x x⟩
    · obtain ⟨x, rfl⟩ := h2; exact ⟨addR_rel r3 (Rel.self hnn) hnn x x, r4⟩
    · obtain ⟨rfl, x⟩ := h2; exact ⟨r3, addR_rel r4 (Rel.self hnn) hnn x x⟩
theorem four_eq {xs : List Nat} (hf : ∀ i, isNum (Ieee.double.read (xs.getD i 0)) ∧ xs.getD i 0 < 2 ^ 64) {n a b a' b' : Nat} (h : SumR xs n a b) (h4 : SumR (0 :: 0 :: 0 :: 0 :: xs) (n + 4) a' b') :
    Ieee.double.order a' a = some .eq ∧ Ieee.double.order b' b = some .eq := by
  obtain ⟨r3, r4⟩ := self_rel hf n a b h
  obtain ⟨s1, s2⟩ := SumR_sim n a' b' a b (four_sum' n a' b' h4) h
  have ea : a' = a := by rcases s1 with e | ⟨_, e⟩; exact e; exact absurd e (not_nan_of_rel r3)
  have eb : b' = b := by rcases s2 with e | ⟨_, e⟩; exact e; exact absurd e (not_nan_of_rel r4)
  subst ea; subst eb
  exact ⟨order_rel r3, order_rel r4⟩
theorem shifts_math {xs : List Nat} (hf : ∀ i, isNum (Ieee.double.read (xs.getD i 0)) ∧ xs.getD i 0 < 2 ^ 64) {n a b a' b' c d : Nat} (h : SumR xs n a b) (h4 : SumR (0 :: 0 :: 0 :: 0 :: xs) (n + 4) a' b') (h1 : SumR (0 :: xs) (n + 1) c d) :
    (Ieee.double.order a' a = some .eq ∧ Ieee.double.order b' b = some .eq) ∧ (Ieee.double.order c (neg b) = some .eq ∧ Ieee.double.order d a = some .eq) := by
  obtain ⟨r1, r2, r3, r4⟩ := one_sum hf n a b c d h h1
  obtain ⟨s1, s2⟩ := SumR_sim n a' b' a b (four_sum' n a' b' h4) h
  obtain ⟨l1, l2⟩ := sum_lt n a b h
  have na := not_nan_of_rel r3
  have nb := not_nan_of_rel r4
  have ea : a' = a := by rcases s1 with e | ⟨_, e⟩; exact e; exact absurd e na
  have eb : b' = b := by rcases s2 with e | ⟨_, e⟩; exact e; exact absurd e nb
  have hb : b < 2 ^ 64 := l2.resolve_left nb
  subst ea; subst eb
  refine ⟨⟨order_rel r3, order_rel r4⟩, ?_, order_rel r2⟩
  unfold Ieee.Format.order
  rw [read_neg hb]
  exact order_opp r1
end Go.Proofs.Ytogiollmghnoaaa
