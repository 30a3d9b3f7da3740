/- Several texts of this proof, laid together. Conditions: as each says. -/
import Derived.Test.YtagiddbfhlokcaaGreatDoorMAE
import Derived.Test.YtagiddbfhlokcaaGreatDoorMAA
/- The scaling of floats is exact: twice the number, cut to a whole one, and whether anything was cut. Conditions: the table of powers. -/
namespace PF
theorem or_one (h : Nat) : h ||| 1 = h / 2 * 2 + 1 := by
  refine Nat.eq_of_testBit_eq fun i => ?_
  rw [Nat.testBit_or]
  cases i with
  | zero => simp [Nat.testBit_zero]
  | succ i =>
    rw [Nat.testBit_succ, Nat.testBit_succ, Nat.testBit_succ]
    have : (h / 2 * 2 + 1) / 2 = h / 2 := by omega
    rw [this]
    simp
/-- 'u / 2' is 'Y / G' cut to a whole number; u is odd if anything was cut. -/
def URn (u Y G : Nat) : Prop := u / 2 * G ≤ Y ∧ Y < (u / 2 + 1) * G ∧ (u % 2 = 0 → Y = u / 2 * G) ∧ (u % 2 = 1 → u / 2 * G < Y)
theorem ur_in {h G Y : Nat} (h1 : h * G < Y) (h2 : Y < (h + 1) * G) : URn (h ||| 1) Y (2 * G) := by
  rw [or_one]
  have e1 : (h / 2 * 2 + 1) / 2 = h / 2 := by omega
  have e2 : (h / 2 * 2 + 1) % 2 = 1 := by omega
  unfold URn
  rw [e1, e2]
  obtain ⟨k, t, hk, ht⟩ : ∃ k t, h = 2 * k + t ∧ t < 2 := ⟨h / 2, h % 2, by omega, by omega⟩
  have e3 : h / 2 = k := by omega
  rw [e3]
  subst hk
  have e4 : (2 * k + t) * G = k * (2 * G) + t * G := by grind
  have e5 : (2 * k + t + 1) * G = k * (2 * G) + (t + 1) * G := by grind
  have e6 : (k + 1) * (2 * G) = k * (2 * G) + 2 * G := by grind
  rw [e4] at h1
  rw [e5] at h2
  rw [e6]
  have h3 : (t + 1) * G ≤ 2 * G := Nat.mul_le_mul_right _ (by omega)
  refine ⟨by omega, by omega, fun h => (by cases h), fun _ => by omega⟩
/-- No multiple of G is so near to Y, but Y itself. -/
def Far (Y G B : Nat) : Prop := ∀ N f, 0 < f → (Y = N * G + f ∨ N * G = Y + f) → B ≤ f
theorem ur_ex {h G Y B : Nat} (hB : B ≤ G) (hF : Far Y (2 * G) B) (h1 : h * G < Y + B) (h2 : Y < h * G + B) : URn h Y (2 * G) := by
  unfold URn
  obtain ⟨k, t, hk, ht⟩ : ∃ k t, h = 2 * k + t ∧ t < 2 := ⟨h / 2, h % 2, by omega, by omega⟩
  have e3 : h / 2 = k := by omega
  have e2 : h % 2 = t := by omega
  rw [e3, e2]
  subst hk
  have e4 : (2 * k + t) * G = k * (2 * G) + t * G := by grind
  have e6 : (k + 1) * (2 * G) = k * (2 * G) + 2 * G := by grind
  rw [e4] at h1 h2
  rw [e6]
  rcases (show t = 0 ∨ t = 1 by omega) with rfl | rfl
  · have hY : Y = k * (2 * G) := by
      rcases Nat.lt_trichotomy Y (k * (2 * G)) with h | h | h
      · have := hF k (k * (2 * G) - Y) (by omega) (.inr (by omega))
        omega
      · exact h
      · have := hF k (Y - k * (2 * G)) (by omega) (.inl (by omega))
        omega
    have hG : 0 < G := by
      rcases Nat.eq_zero_or_pos G with h | h
      · subst h; omega
      · exact h
    refine ⟨by omega, by omega, fun _ => hY, fun h => (by cases h)⟩
  · have : 0 < G := by
      rcases Nat.eq_zero_or_pos G with h | h
      · subst h; omega
      · exact h
    have hGB : B < G ∨ B = G := by omega
    refine ⟨by omega, by omega, fun h => (by cases h), fun _ => ?_⟩
    rcases hGB with h | h
    · omega
    · omega
/-- The cell c holds the power of ten, 128 bits of it, the last one rounded up. -/
structure CellOk (c : Nat × Nat) (P D : Nat) : Prop where
  pos : 0 < D
  hi : c.1 < two64
  lo : c.2 < two64
  top : 9223372036854775808 ≤ c.1
  up : P * 2 ^ 127 ≤ (c.1 * two64 - c.2) * D
  dn : (c.1 * two64 - c.2) * D < P * 2 ^ 127 + D
/-- uscale is exact. -/
theorem usc_ur {x s P D : Nat} {c : Nat × Nat} (hc : CellOk c P D) (hx : x < two64) (hx2 : 4611686018427387904 ≤ x) (hF : Far (x * P * 2 ^ 127) (2 * (D * 2 ^ 128 * 2 ^ s)) (2 ^ 65 * D)) : URn (usc x c s) (x * P * 2 ^ 127) (2 * (D * 2 ^ 128 * 2 ^ s)) := by
  obtain ⟨hD, h1, h2, h3, h4, h5⟩ := hc
  obtain ⟨hi, lo⟩ := c
  simp only at h1 h2 h3 h4 h5
  unfold usc
  simp only
  have t64 : two64 = 18446744073709551616 := rfl
  obtain ⟨H, hH⟩ : ∃ H, x * hi / two64 = H := ⟨_, rfl⟩
  obtain ⟨mid, hmid⟩ : ∃ m, x * hi % two64 = m := ⟨_, rfl⟩
  obtain ⟨mid2, hmid2⟩ : ∃ m, x * lo / two64 = m := ⟨_, rfl⟩
  obtain ⟨rem, hrem⟩ : ∃ m, x * lo % two64 = m := ⟨_, rfl⟩
  rw [hH, hmid, hmid2]
  have q1 : x * hi = two64 * H + mid := by rw [← hH, ← hmid]; exact (Nat.div_add_mod _ _).symm
  have q2 : x * lo = two64 * mid2 + rem := by rw [← hmid2, ← hrem]; exact (Nat.div_add_mod _ _).symm
  have l1 : mid < two64 := by rw [← hmid]; exact Nat.mod_lt _ (by decide)
  have l2 : rem < two64 := by rw [← hrem]; exact Nat.mod_lt _ (by decide)
  have l3 : mid2 + 2 ≤ two64 := by
    have : x * lo ≤ (two64 - 1) * (two64 - 1) := Nat.mul_le_mul (by omega) (by omega)
    have h6 : (two64 - 1) * (two64 - 1) < (two64 - 1) * two64 := by decide
    have : mid2 < two64 - 1 := by rw [← hmid2]; exact (Nat.div_lt_iff_lt_mul (by decide)).2 (by omega)
    omega
  have hH1 : 1 ≤ H := by
    rw [← hH]
    refine (Nat.le_div_iff_mul_le (by decide)).2 ?_
    calc 1 * two64 ≤ 4611686018427387904 * 9223372036854775808 := by decide
      _ ≤ x * hi := Nat.mul_le_mul hx2 h3
  have hH2 : H < two64 := by
    rw [← hH]
    exact (Nat.div_lt_iff_lt_mul (by decide)).2 (Nat.mul_lt_mul'' hx h1)
  -- everything as multiples of D
  obtain ⟨Y, hY⟩ : ∃ Y, x * P * 2 ^ 127 = Y := ⟨_, rfl⟩
  rw [hY] at hF ⊢
  obtain ⟨ε, hε⟩ : ∃ ε, (hi * two64 - lo) * D = P * 2 ^ 127 + ε := ⟨_, (Nat.add_sub_of_le h4).symm⟩
  have l4 : ε < D := by omega
  obtain ⟨W, hW⟩ : ∃ W, two64 * D = W := ⟨_, rfl⟩
  obtain ⟨E, hE⟩ : ∃ E, x * ε = E := ⟨_, rfl⟩
  have l5 : E < W := by
    rw [← hE, ← hW]
    exact Nat.mul_lt_mul'' hx l4
  have hloh : lo ≤ hi * two64 := by
    have : 1 * two64 ≤ hi * two64 := Nat.mul_le_mul_right _ (by omega)
    omega
  have key : H * (two64 * W) + mid * W = Y + E + mid2 * W + rem * D := by
    have a1 : x * ((hi * two64 - lo) * D) + x * lo * D = x * hi * (two64 * D) := by
      have : (hi * two64 - lo) * D + lo * D = hi * two64 * D := by rw [← Nat.add_mul, Nat.sub_add_cancel hloh]
      calc x * ((hi * two64 - lo) * D) + x * lo * D = x * ((hi * two64 - lo) * D + lo * D) := by grind
        _ = x * (hi * two64 * D) := by rw [this]
        _ = x * hi * (two64 * D) := by grind
    rw [hε, q1, q2, hW] at a1
    have a2 : x * (P * 2 ^ 127 + ε) = Y + E := by rw [← hY, ← hE]; grind
    rw [a2] at a1
    have a3 : (two64 * mid2 + rem) * D = mid2 * W + rem * D := by rw [← hW]; grind
    rw [a3] at a1
    have a4 : (two64 * H + mid) * W = H * (two64 * W) + mid * W := by grind
    omega
  obtain ⟨C, hC⟩ : ∃ C, rem * D = C := ⟨_, rfl⟩
  have l6 : C < W := by
    rw [← hC, ← hW]
    exact (Nat.mul_lt_mul_right hD).2 l2
  obtain ⟨Z, hZ⟩ : ∃ Z, two64 * W = Z := ⟨_, rfl⟩
  have l7 : mid * W + W ≤ Z := by
    have : (mid + 1) * W ≤ two64 * W := Nat.mul_le_mul_right _ l1
    have : (mid + 1) * W = mid * W + W := by grind
    omega
  have l8 : mid2 * W + 2 * W ≤ Z := by
    have : (mid2 + 2) * W ≤ two64 * W := Nat.mul_le_mul_right _ l3
    have : (mid2 + 2) * W = mid2 * W + 2 * W := by grind
    omega
  have hZ128 : D * 2 ^ 128 = Z := by
    rw [← hZ, ← hW, t64]
    grind
  have hB : 2 ^ 65 * D = 2 * W := by
    rw [← hW, t64]
    grind
  rw [hZ128, hB] at hF
  rw [hZ128]
  rw [hC, hZ] at key
  obtain ⟨S, hS⟩ : ∃ S, 2 ^ s = S := ⟨_, rfl⟩
  have hS1 : 1 ≤ S := by rw [← hS]; exact Nat.one_le_two_pow
  rw [hS] at hF ⊢
  obtain ⟨h, hh⟩ : ∃ h, H / S = h := ⟨_, rfl⟩
  obtain ⟨r, hr⟩ : ∃ r, H % S = r := ⟨_, rfl⟩
  have q3 : H = S * h + r := by rw [← hh, ← hr]; exact (Nat.div_add_mod _ _).symm
  have l9 : r < S := by rw [← hr]; exact Nat.mod_lt _ hS1
  rw [hh]
  obtain ⟨G, hG⟩ : ∃ G, Z * S = G := ⟨_, rfl⟩
  rw [hG] at hF ⊢
  have kH : H * Z = h * G + r * Z := by rw [q3, ← hG]; grind
  have k1 : (h + 1) * G = h * G + G := by grind
  have k2 : (r + 1) * Z ≤ G := by rw [← hG, Nat.mul_comm Z S]; exact Nat.mul_le_mul_right _ l9
  have k3 : (r + 1) * Z = r * Z + Z := by grind
  have hW0 : 0 < W := by rw [← hW]; exact Nat.mul_pos (by decide) hD
  by_cases hr0 : r = 0
  · subst hr0
    have hdiv : h * S = H := by rw [q3]; grind
    rw [if_pos hdiv]
    rw [Nat.zero_mul] at kH k3
    by_cases hm : mid < mid2
    · -- below the multiple
      have m1 : mid * W + W ≤ mid2 * W := by
        have : (mid + 1) * W ≤ mid2 * W := Nat.mul_le_mul_right _ hm
        have : (mid + 1) * W = mid * W + W := by grind
        omega
      have b1 : (decide (mid < mid2)).toNat = 1 := by rw [decide_eq_true hm]; rfl
      have b2 : (decide (1 < (mid + two64 - mid2) % two64)).toNat = 1 := by
        have : (mid + two64 - mid2) % two64 = mid + two64 - mid2 := Nat.mod_eq_of_lt (by omega)
        rw [this, decide_eq_true (by omega)]; rfl
      rw [b1, b2]
      have b3 : (H + two64 - 1) % two64 = H - 1 := by
        rw [show H + two64 - 1 = H - 1 + two64 by omega, Nat.add_mod_right]
        exact Nat.mod_eq_of_lt (by omega)
      rw [b3]
      have hh1 : 1 ≤ h := by
        rcases Nat.eq_zero_or_pos h with h0 | h0
        · subst h0; omega
        · exact h0
      obtain ⟨g, rfl⟩ : ∃ g, h = g + 1 := ⟨h - 1, by omega⟩
      have g0 : (g + 1) * S = g * S + S := Nat.succ_mul _ _
      have g1 : (g + 1) * G = g * G + G := Nat.succ_mul _ _
      have b4 : (H - 1) / S = g := by
        refine Nat.div_eq_of_lt_le ?_ ?_
        · omega
        · omega
      rw [b4]
      refine ur_in ?_ ?_
      · omega
      · omega
    · have b1 : (decide (mid < mid2)).toNat = 0 := by rw [decide_eq_false hm]; rfl
      rw [b1]
      have b3 : (H + two64 - 0) % two64 = H := by
        rw [Nat.sub_zero, Nat.add_mod_right]
        exact Nat.mod_eq_of_lt hH2
      rw [b3, hh]
      obtain ⟨δ, hδ⟩ : ∃ δ, mid = mid2 + δ := ⟨mid - mid2, by omega⟩
      have b4 : (mid + two64 - mid2) % two64 = δ := by
        rw [show mid + two64 - mid2 = δ + two64 by omega, Nat.add_mod_right]
        exact Nat.mod_eq_of_lt (by omega)
      rw [b4]
      have m1 : mid * W = mid2 * W + δ * W := by rw [hδ]; grind
      by_cases hδ2 : 1 < δ
      · have b2 : (decide (1 < δ)).toNat = 1 := by rw [decide_eq_true hδ2]; rfl
        rw [b2]
        have m2 : 2 * W ≤ δ * W := Nat.mul_le_mul_right _ hδ2
        refine ur_in ?_ ?_
        · omega
        · omega
      · have b2 : (decide (1 < δ)).toNat = 0 := by rw [decide_eq_false hδ2]; rfl
        rw [b2, Nat.or_zero]
        have m2 : δ * W ≤ 1 * W := Nat.mul_le_mul_right _ (by omega)
        refine ur_ex (B := 2 * W) ?_ hF ?_ ?_
        · have : 2 * W ≤ two64 * W := Nat.mul_le_mul_right _ (by decide)
          omega
        · omega
        · omega
  · have hdiv : ¬ h * S = H := by
      rw [q3]
      have : S * h = h * S := Nat.mul_comm _ _
      omega
    rw [if_neg hdiv]
    have m1 : 1 * Z ≤ r * Z := Nat.mul_le_mul_right _ (by omega)
    refine ur_in ?_ ?_
    · omega
    · omega
/-- A number of few bits keeps away. -/
theorem far_of {p : Int} (h1 : -348 ≤ p) (h2 : p ≤ 347) {x s q j : Nat} (hx : x = q * 2 ^ j) (hj : j ≤ s + 2) (hq : q ≤ qMax) (hx2 : 4611686018427387904 ≤ x) : Far (x * aP p * 2 ^ 127) (2 * (aD p * 2 ^ 128 * 2 ^ s)) (2 ^ 65 * aD p) := by
  intro N f hf h
  obtain ⟨k, hk⟩ : ∃ k, s + 2 = j + k := ⟨s + 2 - j, by omega⟩
  obtain ⟨P, hP⟩ : ∃ P, aP p = P := ⟨_, rfl⟩
  obtain ⟨D, hD⟩ : ∃ D, aD p = D := ⟨_, rfl⟩
  obtain ⟨J, hJ⟩ : ∃ J, 2 ^ j = J := ⟨_, rfl⟩
  obtain ⟨K, hK⟩ : ∃ K, 2 ^ k = K := ⟨_, rfl⟩
  have hJ0 : 0 < J := by rw [← hJ]; exact Nat.two_pow_pos _
  have e1 : 2 ^ s * 4 = J * K := by
    rw [← hJ, ← hK, ← Nat.pow_add, ← hk, Nat.pow_add]
  obtain ⟨S, hS⟩ : ∃ S, 2 ^ s = S := ⟨_, rfl⟩
  have hDP : D ≤ P := by
    obtain ⟨t, ht⟩ := nt_at p h1 h2
    unfold ntChk at ht
    simp only [Bool.and_eq_true, decide_eq_true_eq] at ht
    rw [← hP, ← hD]
    exact ht.1.1
  rw [hS] at e1 h
  rw [hP, hD, hx, hJ] at h
  rw [hD]
  rw [hJ] at hx
  have a1 : q * J * P * 2 ^ 127 = (2 ^ 127 * J) * (q * P) := by grind
  have a2 : N * (2 * (D * 2 ^ 128 * S)) = (2 ^ 127 * J) * (N * K * D) := by
    calc N * (2 * (D * 2 ^ 128 * S)) = 2 ^ 127 * (N * D * (S * 4)) := by grind
      _ = _ := by rw [e1]; grind
  rw [a1, a2] at h
  obtain ⟨c, hc⟩ : ∃ c, 2 ^ 127 * J = c := ⟨_, rfl⟩
  rw [hc] at h
  have hc0 : 0 < c := by rw [← hc]; exact Nat.mul_pos (by decide) hJ0
  obtain ⟨f', hf'⟩ : c ∣ f := by
    rcases h with h | h
    · exact (Nat.dvd_add_right (Nat.dvd_mul_right c (N * K * D))).1 (h ▸ Nat.dvd_mul_right c (q * P))
    · exact (Nat.dvd_add_right (Nat.dvd_mul_right c (q * P))).1 (h ▸ Nat.dvd_mul_right c (N * K * D))
  subst hf'
  have hf2 : 0 < f' := Nat.pos_of_mul_pos_left hf
  have hq0 : 0 < q := by
    rcases Nat.eq_zero_or_pos q with h | h
    · subst h; omega
    · exact h
  have h3 : q * P ≤ f' * 2 ^ 124 := by
    have := nt p h1 h2 (q := q) (N := N * K) hq f' hf2
    rw [hP, hD] at this
    refine this ?_
    rcases h with h | h
    · refine .inl (Nat.eq_of_mul_eq_mul_left hc0 ?_)
      rw [h, Nat.mul_add]
    · refine .inr (Nat.eq_of_mul_eq_mul_left hc0 ?_)
      rw [h, Nat.mul_add]
  have h4 : q * D ≤ f' * 2 ^ 124 := Nat.le_trans (Nat.mul_le_mul_left _ hDP) h3
  have h5 : J * (q * D) ≤ J * (f' * 2 ^ 124) := Nat.mul_le_mul_left _ h4
  have h6 : 4611686018427387904 * D ≤ x * D := Nat.mul_le_mul_right _ hx2
  rw [hx] at h6
  have h7 : J * (q * D) = q * J * D := by grind
  have h8 : c * f' = 8 * (J * (f' * 2 ^ 124)) := by rw [← hc]; grind
  rw [h8]
  have h9 : 2 ^ 65 * D = 8 * (4611686018427387904 * D) := by grind
  omega
end PF
/- What a scaled number is, as a fraction; the rungs of the floats and the middles between them. No condition. -/
namespace PF
/-- u is 'unrounded v': twice v, cut to a whole number, and whether anything was cut. -/
structure UR (u : Nat) (v : Rat) : Prop where
  le : ((u / 2 : Nat) : Rat) ≤ 2 * v
  lt : 2 * v < ((u / 2 : Nat) : Rat) + 1
  ev : u % 2 = 0 → 2 * v = ((u / 2 : Nat) : Rat)
  od : u % 2 = 1 → ((u / 2 : Nat) : Rat) < 2 * v
theorem ur_rat {u Y G : Nat} {v : Rat} (h : URn u Y G) (hG : 0 < G) (hv : (Y : Rat) = 2 * v * (G : Rat)) : UR u v := by
  obtain ⟨a, b, c, d⟩ := h
  have g : (0 : Rat) < (G : Rat) := Rat.natCast_pos.2 hG
  refine ⟨?_, ?_, fun h => ?_, fun h => ?_⟩
  · refine Rat.le_of_mul_le_mul_right ?_ g
    rw [← hv, ← Rat.natCast_mul]
    exact Rat.natCast_le_natCast.2 a
  · refine Rat.lt_of_mul_lt_mul_right ?_ (Rat.le_of_lt g)
    have e : (((u / 2 : Nat) : Rat) + 1) * (G : Rat) = (((u / 2 + 1) * G : Nat) : Rat) := by
      rw [Rat.natCast_mul, Rat.natCast_add]; rfl
    rw [← hv, e]
    exact Rat.natCast_lt_natCast.2 b
  · have e := c h
    have h2 : (Y : Rat) = ((u / 2 : Nat) : Rat) * (G : Rat) := by rw [e, Rat.natCast_mul]
    have h3 : 2 * v * (G : Rat) = ((u / 2 : Nat) : Rat) * (G : Rat) := by rw [← hv, h2]
    exact Rat.le_antisymm (Rat.le_of_mul_le_mul_right (by rw [h3]; exact Rat.le_refl) g) (Rat.le_of_mul_le_mul_right (by rw [h3]; exact Rat.le_refl) g)
  · refine Rat.lt_of_mul_lt_mul_right ?_ (Rat.le_of_lt g)
    rw [← hv, ← Rat.natCast_mul]
    exact Rat.natCast_lt_natCast.2 (d h)
theorem r2 : (2 : Rat) ≠ 0 := by decide
theorem r10 : (10 : Rat) ≠ 0 := by decide
theorem p2 (e : Int) : (0 : Rat) < (2 : Rat) ^ e := Rat.zpow_pos (by decide)
theorem p10 (e : Int) : (0 : Rat) < (10 : Rat) ^ e := Rat.zpow_pos (by decide)
theorem half2 (K : Int) : (2 : Rat) ^ (K + 1) = 2 * (2 : Rat) ^ K := by rw [Rat.zpow_add r2, Rat.zpow_one]; exact Rat.mul_comm _ _
theorem cast2 (n : Nat) : ((2 ^ n : Nat) : Rat) = (2 : Rat) ^ (n : Int) := by
  rw [Rat.natCast_pow, Rat.zpow_natCast]; rfl
theorem cast10 (n : Nat) : ((10 ^ n : Nat) : Rat) = (10 : Rat) ^ (n : Int) := by
  rw [Rat.natCast_pow, Rat.zpow_natCast]; rfl
theorem lpow_sign (p : Int) : (0 ≤ p → 0 ≤ lpow p) ∧ (p < 0 → lpow p < 0) := by unfold lpow; omega
theorem ap_ad (p : Int) : ((aP p : Nat) : Rat) = (10 : Rat) ^ p * (2 : Rat) ^ (-lpow p) * ((aD p : Nat) : Rat) := by
  obtain ⟨l, hl⟩ : ∃ l, lpow p = l := ⟨_, rfl⟩
  have hs := lpow_sign p
  rw [hl] at hs
  unfold aP aD
  rw [hl, Rat.natCast_mul, Rat.natCast_mul, cast2, cast2, cast10, cast10]
  by_cases hp : 0 ≤ p
  · have h1 := hs.1 hp
    rw [show ((-p).toNat : Int) = 0 by omega, show ((-l).toNat : Int) = 0 by omega, show (p.toNat : Int) = p by omega, show (l.toNat : Int) = l by omega, Rat.zpow_zero, Rat.zpow_zero, Rat.mul_one, Rat.one_mul, Rat.mul_assoc, ← Rat.zpow_add r2, show -l + l = 0 by omega, Rat.zpow_zero, Rat.mul_one]
  · have h1 := hs.2 (by omega)
    rw [show ((-p).toNat : Int) = -p by omega, show ((-l).toNat : Int) = -l by omega, show (p.toNat : Int) = 0 by omega, show (l.toNat : Int) = 0 by omega, Rat.zpow_zero, Rat.zpow_zero, Rat.mul_one, Rat.one_mul]
    have h2 : (10 : Rat) ^ p * (10 : Rat) ^ (-p) = 1 := by rw [← Rat.zpow_add r10, show p + -p = 0 by omega, Rat.zpow_zero]
    calc (2 : Rat) ^ (-l) = (2 : Rat) ^ (-l) * ((10 : Rat) ^ p * (10 : Rat) ^ (-p)) := by rw [h2, Rat.mul_one]
      _ = (10 : Rat) ^ p * (2 : Rat) ^ (-l) * (10 : Rat) ^ (-p) := by grind
/-- uscale, as a fraction. -/
theorem usc_UR {T : Int → Nat × Nat} {p e : Int} {x s j q : Nat} (hc : CellOk (T p) (aP p) (aD p)) (h1 : -348 ≤ p) (h2 : p ≤ 347) (hx : x < two64) (hx2 : 4611686018427387904 ≤ x) (hs : (s : Int) = -(e + lpow p + 3)) (hq : x = q * 2 ^ j) (hj : j ≤ s + 2) (hq2 : q ≤ qMax) : UR (usc x (T p) s) ((x : Rat) * (2 : Rat) ^ e * (10 : Rat) ^ p) := by
  have h := usc_ur hc hx hx2 (far_of h1 h2 hq hj hq2 hx2)
  refine ur_rat h (Nat.mul_pos (by decide) (Nat.mul_pos (Nat.mul_pos hc.pos (by decide)) (Nat.two_pow_pos _))) ?_
  rw [Rat.natCast_mul, Rat.natCast_mul, Rat.natCast_mul, Rat.natCast_mul, Rat.natCast_mul, cast2, cast2, cast2, ap_ad]
  have e1 : (2 : Rat) ^ (-lpow p) * (2 : Rat) ^ ((127 : Nat) : Int) = 2 * (2 : Rat) ^ e * (2 * (2 : Rat) ^ ((128 : Nat) : Int) * (2 : Rat) ^ (s : Int)) := by
    have t : (2 : Rat) = (2 : Rat) ^ (1 : Int) := (Rat.zpow_one _).symm
    calc (2 : Rat) ^ (-lpow p) * (2 : Rat) ^ ((127 : Nat) : Int) = (2 : Rat) ^ (-lpow p + 127) := (Rat.zpow_add r2 _ _).symm
      _ = (2 : Rat) ^ (1 + e + (1 + 128 + (s : Int))) := by congr 1; omega
      _ = _ := by
        rw [Rat.zpow_add r2, Rat.zpow_add r2, Rat.zpow_add r2, Rat.zpow_add r2, Rat.zpow_one]
        rfl
  have t2 : ((2 : Nat) : Rat) = 2 := rfl
  rw [t2]
  grind
theorem castle {a b : Nat} (h : a ≤ b) : (a : Rat) ≤ (b : Rat) := Rat.natCast_le_natCast.2 h
theorem castlt {a b : Nat} (h : a < b) : (a : Rat) < (b : Rat) := Rat.natCast_lt_natCast.2 h
theorem cast1 (a : Nat) : ((a + 1 : Nat) : Rat) = (a : Rat) + 1 := by rw [Rat.natCast_add]; rfl
theorem casttw (a : Nat) : ((2 * a : Nat) : Rat) = 2 * (a : Rat) := by rw [Rat.natCast_mul]; rfl
/-- What 'ceil', 'floor' and 'round' make of it. -/
theorem UR.ceil {u D : Nat} {v : Rat} (h : UR u v) (hd : (u + 3) / 4 ≤ D) : v ≤ (D : Rat) := by
  obtain ⟨a, b, c, d⟩ := h
  rcases (show u % 2 = 0 ∨ u % 2 = 1 by omega) with t | t
  · have e := castle (show u / 2 ≤ 2 * D by omega)
    rw [casttw] at e
    have := c t
    grind
  · have e := castle (show u / 2 + 1 ≤ 2 * D by omega)
    rw [casttw, cast1] at e
    grind
theorem UR.ceil_lt {u D : Nat} {v : Rat} (h : UR u v) (hd : (u + 4) / 4 ≤ D) : v < (D : Rat) := by
  obtain ⟨a, b, c, d⟩ := h
  have e := castle (show u / 2 + 1 ≤ 2 * D by omega)
  rw [casttw, cast1] at e
  grind
theorem UR.floor {u D : Nat} {v : Rat} (h : UR u v) (hd : D ≤ u / 4) : (D : Rat) ≤ v := by
  obtain ⟨a, b, c, d⟩ := h
  have e := castle (show 2 * D ≤ u / 2 by omega)
  rw [casttw] at e
  grind
theorem UR.floor_lt {u D : Nat} {v : Rat} (h : UR u v) (hd : 4 * D + 1 ≤ u) : (D : Rat) < v := by
  obtain ⟨a, b, c, d⟩ := h
  by_cases t : u / 2 = 2 * D
  · have e := d (by omega)
    rw [t, casttw] at e
    grind
  · have e := castle (show 2 * D + 1 ≤ u / 2 by omega)
    rw [cast1, casttw] at e
    grind
theorem UR.ceil_lt_conv {u D : Nat} {v : Rat} (h : UR u v) (hd : v < (D : Rat)) : (u + 4) / 4 ≤ D := by
  obtain ⟨a, b, c, d⟩ := h
  refine Nat.le_of_not_lt fun hn => ?_
  have e := castle (show 2 * D ≤ u / 2 by omega)
  rw [casttw] at e
  grind
theorem UR.floor_lt_conv {u D : Nat} {v : Rat} (h : UR u v) (hd : (D : Rat) < v) : 4 * D + 1 ≤ u := by
  obtain ⟨a, b, c, d⟩ := h
  refine Nat.le_of_not_lt fun hn => ?_
  by_cases t : u = 4 * D
  · have e := c (by omega)
    rw [show u / 2 = 2 * D by omega, casttw] at e
    grind
  · have e := castle (show u / 2 + 1 ≤ 2 * D by omega)
    rw [cast1, casttw] at e
    grind
theorem UR.rnd {u : Nat} {v : Rat} (h : UR u v) : 2 * (rnd u : Rat) ≤ 2 * v + 1 ∧ 2 * v ≤ 2 * (rnd u : Rat) + 1 ∧ (rnd u % 2 = 1 → 2 * (rnd u : Rat) < 2 * v + 1 ∧ 2 * v < 2 * (rnd u : Rat) + 1) := by
  obtain ⟨a, b, c, d⟩ := h
  obtain ⟨n, hn⟩ : ∃ n, PF.rnd u = n := ⟨_, rfl⟩
  rw [hn]
  unfold PF.rnd at hn
  rcases (show u % 4 = 0 ∨ u % 4 = 1 ∨ u % 4 = 2 ∨ u % 4 = 3 by omega) with t | t | t | t
  · have e := c (by omega)
    rw [show u / 2 = 2 * n by omega, casttw] at e
    refine ⟨by grind, by grind, fun _ => ⟨by grind, by grind⟩⟩
  · have e := d (by omega)
    rw [show u / 2 = 2 * n by omega, casttw] at e b
    refine ⟨by grind, by grind, fun _ => ⟨by grind, by grind⟩⟩
  · have e := c (by omega)
    have hk : u / 2 + 1 = 2 * n ∧ n % 2 = 0 ∨ u / 2 = 2 * n + 1 ∧ n % 2 = 0 := by
      obtain ⟨q, rfl⟩ : ∃ q, u = 4 * q + 2 := ⟨u / 4, by omega⟩
      rw [show (4 * q + 2) / 4 = q by omega] at hn
      rcases (show q % 2 = 0 ∨ q % 2 = 1 by omega) with k | k
      · rw [k] at hn; exact .inr (by omega)
      · rw [k] at hn; exact .inl (by omega)
    rcases hk with ⟨k1, k2⟩ | ⟨k1, k2⟩
    · have f := congrArg (fun x : Nat => (x : Rat)) k1
      rw [cast1, casttw] at f
      refine ⟨by grind, by grind, fun h => by omega⟩
    · rw [k1, cast1, casttw] at e
      refine ⟨by grind, by grind, fun h => by omega⟩
  · have e := d (by omega)
    have f := congrArg (fun x : Nat => (x : Rat)) (show u / 2 + 1 = 2 * n by omega)
    rw [cast1, casttw] at f
    refine ⟨by grind, by grind, fun _ => ⟨by grind, by grind⟩⟩
theorem or_bit (a t : Nat) (ht : t < 2) : a ||| t = if t = 0 then a else a / 2 * 2 + 1 := by
  rcases (show t = 0 ∨ t = 1 by omega) with rfl | rfl
  · rw [if_pos rfl, Nat.or_zero]
  · rw [if_neg (by omega), or_one]
theorem UR.half {u : Nat} {v : Rat} (h : UR u v) : UR (u / 2 ||| u % 2) (v / 2) := by
  obtain ⟨a, b, c, d⟩ := h
  rw [or_bit _ _ (Nat.mod_lt _ (by omega))]
  have e2 : 2 * (v / 2) = v := by grind
  rcases (show u % 2 = 0 ∨ u % 2 = 1 by omega) with t | t
  · rw [if_pos t]
    have e := c t
    rcases (show u / 2 = 2 * (u / 2 / 2) ∨ u / 2 = 2 * (u / 2 / 2) + 1 by omega) with k | k
    · rw [k, casttw] at e
      refine ⟨by grind, by grind, fun _ => by grind, fun h => by omega⟩
    · rw [k, cast1, casttw] at e
      refine ⟨by grind, by grind, fun h => by omega, fun _ => by grind⟩
  · rw [if_neg (by omega)]
    have e := d t
    rw [show u / 2 / 2 * 2 + 1 = 2 * (u / 2 / 2) + 1 by omega]
    have f1 : (2 * (u / 2 / 2) + 1) / 2 = u / 2 / 2 := by omega
    refine ⟨?_, ?_, fun h => by omega, fun _ => ?_⟩
    · rw [f1]
      have g := castle (show 2 * (u / 2 / 2) ≤ u / 2 by omega)
      rw [casttw] at g
      grind
    · rw [f1]
      have g := castle (show u / 2 ≤ 2 * (u / 2 / 2) + 1 by omega)
      rw [cast1, casttw] at g
      grind
    · rw [f1]
      have g := castle (show 2 * (u / 2 / 2) ≤ u / 2 by omega)
      rw [casttw] at g
      grind
/-- The float of rung r, and the middle of it and the next, in units of '2 ^ -1074' and of '2 ^ -1075'. -/
def magR (r : Nat) : Nat := if r < 4503599627370496 then r else (4503599627370496 + r % 4503599627370496) * 2 ^ (r / 4503599627370496 - 1)
def midR (r : Nat) : Nat := magR r + magR (r + 1)
theorem magR_form {k n : Nat} (h : k = 0 ∨ 4503599627370496 ≤ n) (h2 : n ≤ 9007199254740992) : magR (k * 4503599627370496 + n) = n * 2 ^ k := by
  unfold magR
  by_cases hn : n < 4503599627370496
  · have : k = 0 := by omega
    subst this
    rw [if_pos (by omega)]
    omega
  · rw [if_neg (by omega)]
    by_cases hn2 : n = 9007199254740992
    · subst hn2
      rw [show (k * 4503599627370496 + 9007199254740992) % 4503599627370496 = 0 by omega, show (k * 4503599627370496 + 9007199254740992) / 4503599627370496 - 1 = k + 1 by omega, Nat.pow_succ]
      omega
    · rw [show (k * 4503599627370496 + n) % 4503599627370496 = n - 4503599627370496 by omega, show (k * 4503599627370496 + n) / 4503599627370496 - 1 = k by omega, show 4503599627370496 + (n - 4503599627370496) = n by omega]
theorem rung_form (r : Nat) : ∃ k n, r = k * 4503599627370496 + n ∧ (k = 0 ∨ 4503599627370496 ≤ n) ∧ n < 9007199254740992 := by
  by_cases h : r < 4503599627370496
  · exact ⟨0, r, by omega, .inl rfl, by omega⟩
  · exact ⟨r / 4503599627370496 - 1, 4503599627370496 + r % 4503599627370496, by omega, .inr (by omega), by omega⟩
theorem midR_form {k n : Nat} (h : k = 0 ∨ 4503599627370496 ≤ n) (h2 : n < 9007199254740992) : midR (k * 4503599627370496 + n) = (2 * n + 1) * 2 ^ k := by
  unfold midR
  rw [magR_form h (by omega), Nat.add_assoc, magR_form (by omega) (by omega)]
  grind
theorem magR_lt (r : Nat) : magR r < magR (r + 1) := by
  obtain ⟨k, n, rfl, h, h2⟩ := rung_form r
  rw [magR_form h (by omega), Nat.add_assoc, magR_form (by omega) (by omega)]
  exact (Nat.mul_lt_mul_right (Nat.two_pow_pos _)).2 (by omega)
theorem midR_lt (r : Nat) : midR r < midR (r + 1) := by
  unfold midR
  have := magR_lt r
  have := magR_lt (r + 1)
  omega
theorem midR_mono {r r' : Nat} (h : r < r') : midR r < midR r' := by
  obtain ⟨d, rfl⟩ : ∃ d, r' = r + 1 + d := ⟨r' - (r + 1), by omega⟩
  clear h
  induction d with
  | zero => exact midR_lt r
  | succ d ih => exact Nat.lt_trans ih (midR_lt _)
/-- r is the rung of the float that is nearest to 'V * 2 ^ -1075'; between two the even one. -/
structure Near (V : Rat) (r : Nat) : Prop where
  lo : 0 < r → ((midR (r - 1) : Nat) : Rat) ≤ V
  loE : 0 < r → r % 2 = 1 → ((midR (r - 1) : Nat) : Rat) < V
  hi : V ≤ ((midR r : Nat) : Rat)
  hiE : r % 2 = 1 → V < ((midR r : Nat) : Rat)
theorem Near.not_lt {V : Rat} {r r' : Nat} (h : Near V r) (h' : Near V r') : ¬ r < r' := by
  intro hl
  have a := h.hi
  have b := h'.lo (by omega)
  have c : ((midR (r' - 1) : Nat) : Rat) ≤ ((midR r : Nat) : Rat) := Rat.le_trans b a
  have c' := Rat.natCast_le_natCast.1 c
  by_cases he : r' = r + 1
  · subst he
    rw [Nat.add_sub_cancel] at b
    rcases (show r % 2 = 1 ∨ (r + 1) % 2 = 1 by omega) with h1 | h1
    · exact absurd b (Rat.not_le.2 (h.hiE h1))
    · have := h'.loE (by omega) h1
      rw [Nat.add_sub_cancel] at this
      exact absurd a (Rat.not_le.2 this)
  · have := midR_mono (show r < r' - 1 by omega)
    omega
theorem Near.unique {V : Rat} {r r' : Nat} (h : Near V r) (h' : Near V r') : r = r' := by
  have := h.not_lt h'
  have := h'.not_lt h
  omega
/-- What is rounded to a whole number of units is nearest. -/
theorem near_of {V w : Rat} {k n : Nat} (hV : V = w * ((2 ^ k : Nat) : Rat)) (hk : k = 0 ∨ 4503599627370496 ≤ n) (hn : n ≤ 9007199254740992) (hlow : 0 < k → (9007199254740992 : Rat) ≤ w) (h1 : 2 * (n : Rat) ≤ w + 1) (h2 : w ≤ 2 * (n : Rat) + 1) (hE : n % 2 = 1 → 2 * (n : Rat) < w + 1 ∧ w < 2 * (n : Rat) + 1) : Near V (k * 4503599627370496 + n) := by
  have hp : (0 : Rat) < ((2 ^ k : Nat) : Rat) := Rat.natCast_pos.2 (Nat.two_pow_pos _)
  have hpar : (k * 4503599627370496 + n) % 2 = n % 2 := by omega
  have up : ∃ M : Nat, midR (k * 4503599627370496 + n) = M * 2 ^ k ∧ 2 * n + 1 ≤ M := by
    by_cases h : n < 9007199254740992
    · exact ⟨_, midR_form hk h, Nat.le_refl _⟩
    · have e : k * 4503599627370496 + n = (k + 1) * 4503599627370496 + 4503599627370496 := by omega
      rw [e, midR_form (.inr (by omega)) (by omega)]
      refine ⟨2 * (2 * 4503599627370496 + 1), ?_, by omega⟩
      rw [Nat.pow_succ]
      omega
  obtain ⟨M, hM, hM2⟩ := up
  have hi : ((midR (k * 4503599627370496 + n) : Nat) : Rat) = (M : Rat) * ((2 ^ k : Nat) : Rat) := by rw [hM, Rat.natCast_mul]
  have hM3 := castle hM2
  rw [cast1, casttw] at hM3
  have dn : 0 < k * 4503599627370496 + n → (∃ m : Nat, midR (k * 4503599627370496 + n - 1) = m * 2 ^ k ∧ m + 1 = 2 * n) ∨ (∃ j, k = j + 1 ∧ midR (k * 4503599627370496 + n - 1) = 18014398509481983 * 2 ^ j) := by
    intro h0
    by_cases h : 0 < k ∧ n = 4503599627370496
    · obtain ⟨ha, rfl⟩ := h
      obtain ⟨j, rfl⟩ : ∃ j, k = j + 1 := ⟨k - 1, by omega⟩
      refine .inr ⟨j, rfl, ?_⟩
      have e : (j + 1) * 4503599627370496 + 4503599627370496 - 1 = j * 4503599627370496 + 9007199254740991 := by omega
      rw [e, midR_form (.inr (by omega)) (by omega)]
    · have hn0 : 0 < n := by omega
      have e : k * 4503599627370496 + n - 1 = k * 4503599627370496 + (n - 1) := by omega
      rw [e, midR_form (by omega) (by omega)]
      exact .inl ⟨2 * (n - 1) + 1, rfl, by omega⟩
  refine ⟨fun h0 => ?_, fun h0 ho => ?_, ?_, fun ho => ?_⟩
  · rcases dn h0 with ⟨m, e1, e2⟩ | ⟨j, rfl, e1⟩
    · rw [e1, Rat.natCast_mul, hV]
      refine Rat.mul_le_mul_of_nonneg_right ?_ (Rat.le_of_lt hp)
      have f := congrArg (fun x : Nat => (x : Rat)) e2
      rw [cast1, casttw] at f
      grind
    · have hw := hlow (by omega)
      rw [e1, hV, Nat.pow_succ, Rat.natCast_mul, Rat.natCast_mul]
      have hp2 : (0 : Rat) < ((2 ^ j : Nat) : Rat) := Rat.natCast_pos.2 (Nat.two_pow_pos _)
      have e3 : w * (((2 ^ j : Nat) : Rat) * ((2 : Nat) : Rat)) = (2 * w) * ((2 ^ j : Nat) : Rat) := by
        have : ((2 : Nat) : Rat) = 2 := rfl
        rw [this]; grind
      rw [e3]
      refine Rat.mul_le_mul_of_nonneg_right ?_ (Rat.le_of_lt hp2)
      have : ((18014398509481983 : Nat) : Rat) = 18014398509481983 := rfl
      rw [this]
      grind
  · rw [hpar] at ho
    rcases dn h0 with ⟨m, e1, e2⟩ | ⟨j, rfl, e1⟩
    · rw [e1, Rat.natCast_mul, hV]
      refine Rat.mul_lt_mul_of_pos_right ?_ hp
      have f := congrArg (fun x : Nat => (x : Rat)) e2
      rw [cast1, casttw] at f
      have := (hE ho).1
      grind
    · have hw := hlow (by omega)
      rw [e1, hV, Nat.pow_succ, Rat.natCast_mul, Rat.natCast_mul]
      have hp2 : (0 : Rat) < ((2 ^ j : Nat) : Rat) := Rat.natCast_pos.2 (Nat.two_pow_pos _)
      have e3 : w * (((2 ^ j : Nat) : Rat) * ((2 : Nat) : Rat)) = (2 * w) * ((2 ^ j : Nat) : Rat) := by
        have : ((2 : Nat) : Rat) = 2 := rfl
        rw [this]; grind
      rw [e3]
      refine Rat.mul_lt_mul_of_pos_right ?_ hp2
      have : ((18014398509481983 : Nat) : Rat) = 18014398509481983 := rfl
      rw [this]
      grind
  · rw [hi, hV]
    exact Rat.mul_le_mul_of_nonneg_right (Rat.le_trans h2 hM3) (Rat.le_of_lt hp)
  · rw [hpar] at ho
    rw [hi, hV]
    refine Rat.mul_lt_mul_of_pos_right ?_ hp
    have := (hE ho).2
    grind
end PF
/- Printing a float: the shortest digits as the program reckons them, in plain Lean. No condition. -/
namespace Go.Proofs.YtagiddbfhlokcaaGreatDoor.Ff
def l10 (x : Int) : Int := x * 78913 / 262144
def skw (x : Int) : Int := (x * 631305 - 261663) / 2097152
def nudP (u o : Nat) : Nat := (u + o) % 18446744073709551616
def nudM (u o : Nat) : Nat := (u + (18446744073709551616 - o)) % 18446744073709551616
def ceilU (u : Nat) : Nat := (u + 3) % 18446744073709551616 / 4
def floorU (u : Nat) : Nat := u / 4
def rndU (u : Nat) : Nat := (u + 1 + u / 4 % 2) % 18446744073709551616 / 4
def sfSk (m : Nat) (e : Int) : Bool := decide (m = 9223372036854775808) && decide (-1085 < e)
def sfZ (e : Int) : Nat := if -1085 ≤ e then 11 else (11 + (-1085 - e)).toNat
def sfP (m : Nat) (e : Int) : Int := if sfSk m e then -skw (e + 11) else -l10 (e + sfZ e)
def sfLo (m : Nat) (e : Int) : Nat := if sfSk m e then m - 512 else m - 2 ^ (sfZ e - 1)
def sfHi (m : Nat) (e : Int) : Nat := (m + 2 ^ (sfZ e - 1)) % 18446744073709551616
def sfOdd (m : Nat) (e : Int) : Nat := m / 2 ^ sfZ e % 2
def sfS (m : Nat) (e : Int) : Int := -(e + PF.lpow (sfP m e) + 3)
/-- The digits' number, and the power of ten. -/
def shortF (T : Int → Nat × Nat) (m : Nat) (e : Int) : Nat × Int :=
  let p := sfP m e
  let u := fun x => PF.usc x (T p) (sfS m e).toNat
  let dmin := ceilU (nudP (u (sfLo m e)) (sfOdd m e))
  let dmax := floorU (nudM (u (sfHi m e)) (sfOdd m e))
  if dmin ≤ dmax / 10 * 10 then (dmax / 10, -(p - 1)) else if dmin < dmax then (rndU (u m), -p) else (dmin, -p)
end Go.Proofs.YtagiddbfhlokcaaGreatDoor.Ff
