/- Several texts of this proof, laid together. Conditions: as each says. -/
import Derived.Test.YtagiddbfhlokcaaGreatDoorMAF
import Derived.Test.YtagiddbfhlokcaaGreatDoorMAA
import Derived.Lib.ParseIntB
/- The shortest digits lie within the interval of the float. Conditions: the table of powers. -/
namespace PF
open Go.Proofs.YtagiddbfhlokcaaGreatDoor
/-- The table of powers is right. -/
def TabPow (T : Int → Nat × Nat) : Prop := ∀ p, -348 ≤ p → p ≤ 347 → CellOk (T p) (aP p) (aD p)
theorem up2 (x j : Nat) (c : Nat) (E : Int) (p : Int) (h : x = c * 2 ^ j) : (x : Rat) * (2 : Rat) ^ E * (10 : Rat) ^ p = (c : Rat) * ((2 : Rat) ^ ((j : Int) + E) * (10 : Rat) ^ p) := by
  rw [h, Rat.natCast_mul, cast2, Rat.zpow_add r2]
  generalize (2 : Rat) ^ E = a
  generalize (2 : Rat) ^ (j : Int) = b
  generalize (10 : Rat) ^ p = z
  grind
/-- What is chosen between two ends. -/
structure Ends (ul uh um o : Nat) (vl vm vh : Rat) : Prop where
  l : UR ul vl
  h : UR uh vh
  m : UR um vm
  o2 : o < 2
  pos : 0 < vl
  lm : vm - vl ≤ vh - vm
  ml : vh - vm ≤ 2 * (vm - vl)
  uh1 : 1 ≤ uh
def eMin (ul o : Nat) : Nat := (ul + o + 3) / 4
def eMax (uh o : Nat) : Nat := (uh - o) / 4
theorem Ends.min_le {ul uh um o : Nat} {vl vm vh : Rat} (h : Ends ul uh um o vl vm vh) {D : Nat} (hd : eMin ul o ≤ D) : vl ≤ (D : Rat) ∧ (o = 1 → vl < (D : Rat)) := by
  unfold eMin at hd
  rcases (show o = 0 ∨ o = 1 by have := h.o2; omega) with rfl | rfl
  · exact ⟨h.l.ceil hd, fun h => by cases h⟩
  · have := h.l.ceil_lt hd
    exact ⟨Rat.le_of_lt this, fun _ => this⟩
theorem Ends.le_max {ul uh um o : Nat} {vl vm vh : Rat} (h : Ends ul uh um o vl vm vh) {D : Nat} (hd : D ≤ eMax uh o) : (D : Rat) ≤ vh ∧ (o = 1 → (D : Rat) < vh) := by
  unfold eMax at hd
  have := h.uh1
  rcases (show o = 0 ∨ o = 1 by have := h.o2; omega) with rfl | rfl
  · exact ⟨h.h.floor hd, fun h => by cases h⟩
  · have := h.h.floor_lt (D := D) (by omega)
    exact ⟨Rat.le_of_lt this, fun _ => this⟩
theorem Ends.min_conv {ul uh um o : Nat} {vl vm vh : Rat} (h : Ends ul uh um o vl vm vh) {D : Nat} (hd : vl < (D : Rat)) : eMin ul o ≤ D := by
  have := h.l.ceil_lt_conv hd
  have := h.o2
  unfold eMin
  omega
theorem Ends.max_conv {ul uh um o : Nat} {vl vm vh : Rat} (h : Ends ul uh um o vl vm vh) {D : Nat} (hd : (D : Rat) < vh) : D ≤ eMax uh o := by
  have := h.h.floor_lt_conv hd
  have := h.o2
  unfold eMax
  omega
theorem Ends.some_in {ul uh um o : Nat} {vl vm vh : Rat} (h : Ends ul uh um o vl vm vh) (hw : 1 < vh - vl ∨ vh - vl = 1 ∧ ∃ n : Nat, vl = (n : Rat) + 1 / 2) : eMin ul o ≤ eMax uh o := by
  refine Nat.le_of_not_lt fun hn => ?_
  have h1 : vh ≤ ((eMax uh o + 1 : Nat) : Rat) := Rat.not_lt.1 fun hc => absurd (h.max_conv hc) (by omega)
  have h2 : ((eMax uh o : Nat) : Rat) ≤ vl := Rat.not_lt.1 fun hc => absurd (h.min_conv hc) (by omega)
  rw [cast1] at h1
  obtain ⟨x, hx⟩ : ∃ x, eMax uh o = x := ⟨_, rfl⟩
  rw [hx] at h1 h2
  rcases hw with hw | ⟨hw, n, hn⟩
  · grind
  · have h3 : 2 * (x : Rat) = 2 * (n : Rat) + 1 := by grind
    have h4 : ((2 * x : Nat) : Rat) = ((2 * n + 1 : Nat) : Rat) := by rw [casttw, cast1, casttw]; exact h3
    have := Rat.natCast_inj.1 h4
    omega
theorem Ends.rnd_in {ul uh um o : Nat} {vl vm vh : Rat} (h : Ends ul uh um o vl vm vh) (hlt : eMin ul o < eMax uh o) : eMin ul o ≤ rnd um ∧ rnd um ≤ eMax uh o := by
  obtain ⟨r1, r2, _⟩ := h.m.rnd
  obtain ⟨a, ha⟩ : ∃ a, eMin ul o = a := ⟨_, rfl⟩
  obtain ⟨b, hb⟩ : ∃ b, eMax uh o = b := ⟨_, rfl⟩
  have l1 := (h.min_le (Nat.le_refl _)).1
  have l2 := (h.le_max (Nat.le_refl _)).1
  have lm := h.lm
  have ml := h.ml
  rw [ha] at l1 hlt
  rw [hb] at l2 hlt
  rw [ha, hb]
  have hab := castle (show a + 1 ≤ b by omega)
  rw [cast1] at hab
  constructor
  · refine Nat.le_of_not_lt fun hc => ?_
    have c1 := castle (show rnd um + 1 ≤ a by omega)
    rw [cast1] at c1
    obtain ⟨a', rfl⟩ : ∃ a', a = a' + 1 := ⟨a - 1, by omega⟩
    rw [cast1] at c1 hab l1
    have h5 : vl < (a' : Rat) := by grind
    have := h.min_conv h5
    omega
  · refine Nat.le_of_not_lt fun hc => ?_
    have c1 := castle (show b + 1 ≤ rnd um by omega)
    rw [cast1] at c1
    have h5 : ((b + 1 : Nat) : Rat) < vh := by rw [cast1]; grind
    have := h.max_conv h5
    omega
theorem z10 (l : Int) : (10 : Rat) ^ l * ((10 ^ (-l).toNat : Nat) : Rat) = ((10 ^ l.toNat : Nat) : Rat) := by
  rw [cast10, cast10, ← Rat.zpow_add r10]
  congr 1
  omega
theorem z2 (l : Int) : (2 : Rat) ^ l * ((2 ^ (-l).toNat : Nat) : Rat) = ((2 ^ l.toNat : Nat) : Rat) := by
  rw [cast2, cast2, ← Rat.zpow_add r2]
  congr 1
  omega
theorem pow_lt {a b : Nat} {l K : Int} (h : a * (10 ^ l.toNat * 2 ^ (-K).toNat) < b * (2 ^ K.toNat * 10 ^ (-l).toNat)) : (a : Rat) * (10 : Rat) ^ l < (b : Rat) * (2 : Rat) ^ K := by
  have e := castlt h
  rw [Rat.natCast_mul, Rat.natCast_mul, Rat.natCast_mul, Rat.natCast_mul, ← z10 l, ← z2 K] at e
  have g1 : (0 : Rat) < ((10 ^ (-l).toNat : Nat) : Rat) := Rat.natCast_pos.2 (Nat.pow_pos (by decide))
  have g2 : (0 : Rat) < ((2 ^ (-K).toNat : Nat) : Rat) := Rat.natCast_pos.2 (Nat.pow_pos (by decide))
  refine Rat.lt_of_mul_lt_mul_right (c := ((10 ^ (-l).toNat : Nat) : Rat) * ((2 ^ (-K).toNat : Nat) : Rat)) ?_ (Rat.le_of_lt (Rat.mul_pos g1 g2))
  generalize ((10 ^ (-l).toNat : Nat) : Rat) = x at *
  generalize ((2 ^ (-K).toNat : Nat) : Rat) = y at *
  generalize (10 : Rat) ^ l = z at *
  generalize (2 : Rat) ^ K = t at *
  clear h
  grind
theorem pow_lt' {a b : Nat} {l K : Int} (h : b * (2 ^ K.toNat * 10 ^ (-l).toNat) < a * (10 ^ l.toNat * 2 ^ (-K).toNat)) : (b : Rat) * (2 : Rat) ^ K < (a : Rat) * (10 : Rat) ^ l := by
  have e := castlt h
  rw [Rat.natCast_mul, Rat.natCast_mul, Rat.natCast_mul, Rat.natCast_mul, ← z10 l, ← z2 K] at e
  have g1 : (0 : Rat) < ((10 ^ (-l).toNat : Nat) : Rat) := Rat.natCast_pos.2 (Nat.pow_pos (by decide))
  have g2 : (0 : Rat) < ((2 ^ (-K).toNat : Nat) : Rat) := Rat.natCast_pos.2 (Nat.pow_pos (by decide))
  refine Rat.lt_of_mul_lt_mul_right (c := ((10 ^ (-l).toNat : Nat) : Rat) * ((2 ^ (-K).toNat : Nat) : Rat)) ?_ (Rat.le_of_lt (Rat.mul_pos g1 g2))
  generalize ((10 ^ (-l).toNat : Nat) : Rat) = x at *
  generalize ((2 ^ (-K).toNat : Nat) : Rat) = y at *
  generalize (10 : Rat) ^ l = z at *
  generalize (2 : Rat) ^ K = t at *
  clear h
  grind
def chkL (K : Int) : Bool :=
  let l := Ff.l10 K
  (decide (K = 0) && decide (l = 0) || decide (1 * (10 ^ l.toNat * 2 ^ (-K).toNat) < 1 * (2 ^ K.toNat * 10 ^ (-l).toNat))) && decide (1 * (2 ^ K.toNat * 10 ^ (-l).toNat) < 10 * (10 ^ l.toNat * 2 ^ (-K).toNat)) &&
  decide (0 ≤ K + lpow (-l)) && decide (K + lpow (-l) ≤ 3) && decide (-340 ≤ l) && decide (l ≤ 340)
def chkS (K : Int) : Bool :=
  let l := Ff.skw K
  decide (4 * (10 ^ l.toNat * 2 ^ (-K).toNat) < 3 * (2 ^ K.toNat * 10 ^ (-l).toNat)) && decide (3 * (2 ^ K.toNat * 10 ^ (-l).toNat) < 40 * (10 ^ l.toNat * 2 ^ (-K).toNat)) &&
  decide (-1 ≤ K + lpow (-l)) && decide (K + lpow (-l) ≤ 4) && decide (-340 ≤ l) && decide (l ≤ 340)
theorem chk_all : (List.range 2200).all (fun k => chkL ((k : Int) - 1100) && chkS ((k : Int) - 1100)) = true := by decide +kernel
theorem chk_at (K : Int) (h1 : -1100 ≤ K) (h2 : K < 1100) : chkL K = true ∧ chkS K = true := by
  have h := List.all_eq_true.1 chk_all (K + 1100).toNat (List.mem_range.2 (by omega))
  rw [show (((K + 1100).toNat : Nat) : Int) - 1100 = K by omega, Bool.and_eq_true] at h
  exact h
/-- 'A = 2^K 10^-l': one at least, ten at most. -/
theorem scale_l (K : Int) (h1 : -1100 ≤ K) (h2 : K < 1100) : (1 < (2 : Rat) ^ K * (10 : Rat) ^ (-Ff.l10 K) ∨ K = 0 ∧ (2 : Rat) ^ K * (10 : Rat) ^ (-Ff.l10 K) = 1) ∧ (2 : Rat) ^ K * (10 : Rat) ^ (-Ff.l10 K) < 10 ∧ 0 ≤ K + lpow (-Ff.l10 K) ∧ K + lpow (-Ff.l10 K) ≤ 3 ∧ -340 ≤ Ff.l10 K ∧ Ff.l10 K ≤ 340 := by
  have h := (chk_at K h1 h2).1
  unfold chkL at h
  simp only [Bool.and_eq_true, Bool.or_eq_true, decide_eq_true_eq] at h
  obtain ⟨⟨⟨⟨⟨a, b⟩, c1⟩, c2⟩, c3⟩, c4⟩ := h
  obtain ⟨l, hl⟩ : ∃ l, Ff.l10 K = l := ⟨_, rfl⟩
  rw [hl] at a b c1 c2 c3 c4 ⊢
  have hp := p10 (-l)
  have hu : (10 : Rat) ^ l * (10 : Rat) ^ (-l) = 1 := by rw [← Rat.zpow_add r10, show l + -l = 0 by omega, Rat.zpow_zero]
  refine ⟨?_, ?_, c1, c2, c3, c4⟩
  · rcases a with ⟨rfl, rfl⟩ | a
    · exact .inr ⟨rfl, by rw [Int.neg_zero, Rat.zpow_zero, Rat.zpow_zero, Rat.mul_one]⟩
    · have e := Rat.mul_lt_mul_of_pos_right (pow_lt a) hp
      have t1 : ((1 : Nat) : Rat) = 1 := rfl
      rw [t1] at e
      left
      grind
  · have e := Rat.mul_lt_mul_of_pos_right (pow_lt' b) hp
    have t1 : ((1 : Nat) : Rat) = 1 := rfl
    have t2 : ((10 : Nat) : Rat) = 10 := rfl
    rw [t1, t2] at e
    grind
theorem scale_s (K : Int) (h1 : -1100 ≤ K) (h2 : K < 1100) : 4 < 3 * ((2 : Rat) ^ K * (10 : Rat) ^ (-Ff.skw K)) ∧ 3 * ((2 : Rat) ^ K * (10 : Rat) ^ (-Ff.skw K)) < 40 ∧ -1 ≤ K + lpow (-Ff.skw K) ∧ K + lpow (-Ff.skw K) ≤ 4 ∧ -340 ≤ Ff.skw K ∧ Ff.skw K ≤ 340 := by
  have h := (chk_at K h1 h2).2
  unfold chkS at h
  simp only [Bool.and_eq_true, decide_eq_true_eq] at h
  obtain ⟨⟨⟨⟨⟨a, b⟩, c1⟩, c2⟩, c3⟩, c4⟩ := h
  obtain ⟨l, hl⟩ : ∃ l, Ff.skw K = l := ⟨_, rfl⟩
  rw [hl] at a b c1 c2 c3 c4 ⊢
  have hp := p10 (-l)
  have hu : (10 : Rat) ^ l * (10 : Rat) ^ (-l) = 1 := by rw [← Rat.zpow_add r10, show l + -l = 0 by omega, Rat.zpow_zero]
  refine ⟨?_, ?_, c1, c2, c3, c4⟩
  · have e := Rat.mul_lt_mul_of_pos_right (pow_lt a) hp
    have t1 : ((4 : Nat) : Rat) = 4 := rfl
    have t2 : ((3 : Nat) : Rat) = 3 := rfl
    rw [t1, t2] at e
    grind
  · have e := Rat.mul_lt_mul_of_pos_right (pow_lt' b) hp
    have t1 : ((3 : Nat) : Rat) = 3 := rfl
    have t2 : ((40 : Nat) : Rat) = 40 := rfl
    rw [t1, t2] at e
    grind
end PF
/- The digits that are printed are nearest to the float itself. Conditions: the table of powers. -/
namespace PF
open Go.Proofs.YtagiddbfhlokcaaGreatDoor
theorem UR.bound {u : Nat} {v : Rat} (h : UR u v) {b : Nat} (hb : v < (b : Rat)) : u ≤ 4 * b := by
  refine Nat.le_of_not_lt fun hn => ?_
  have e := castle (show 2 * b ≤ u / 2 by omega)
  rw [casttw] at e
  have := h.le
  grind
theorem UR.one {u : Nat} {v : Rat} (h : UR u v) (hv : 0 < v) : 1 ≤ u := by
  rcases Nat.eq_zero_or_pos u with h0 | h0
  · subst h0
    have := h.ev rfl
    have t : ((0 / 2 : Nat) : Rat) = 0 := rfl
    rw [t] at this
    grind
  · exact h0
theorem choose {ul uh um o : Nat} {vl vm vh : Rat} (h : Ends ul uh um o vl vm vh) (hv : vh < ((100000000000000000 : Nat) : Rat)) (hmh : vm ≤ vh) (hlm : vl ≤ vm) (hin : eMin ul o ≤ eMax uh o) (p : Int) :
    ∃ (R : Nat × Int) (D : Nat), (if Ff.ceilU (Ff.nudP ul o) ≤ Ff.floorU (Ff.nudM uh o) / 10 * 10 then (Ff.floorU (Ff.nudM uh o) / 10, -(p - 1)) else if Ff.ceilU (Ff.nudP ul o) < Ff.floorU (Ff.nudM uh o) then (Ff.rndU um, -p) else (Ff.ceilU (Ff.nudP ul o), -p)) = R ∧
      eMin ul o ≤ D ∧ D ≤ eMax uh o ∧ (R.1 : Rat) * (10 : Rat) ^ R.2 = (D : Rat) * (10 : Rat) ^ (-p) ∧ R.1 ≤ D ∧ (0 < D → 0 < R.1) ∧ -p ≤ R.2 ∧ R.2 ≤ -p + 1 := by
  have o2 := h.o2
  have u1 := h.uh1
  have bl := h.l.bound (b := 100000000000000000) (by grind)
  have bh := h.h.bound hv
  have bm := h.m.bound (b := 100000000000000000) (by grind)
  have e1 : Ff.ceilU (Ff.nudP ul o) = eMin ul o := by
    unfold Ff.ceilU Ff.nudP eMin
    omega
  have e2 : Ff.floorU (Ff.nudM uh o) = eMax uh o := by
    unfold Ff.floorU Ff.nudM eMax
    omega
  have e3 : Ff.rndU um = rnd um := by
    unfold Ff.rndU rnd
    omega
  rw [e1, e2, e3]
  by_cases c1 : eMin ul o ≤ eMax uh o / 10 * 10
  · rw [if_pos c1]
    refine ⟨_, eMax uh o / 10 * 10, rfl, c1, by omega, ?_, ?_, ?_, ?_, ?_⟩
    · simp only
      rw [Rat.natCast_mul, show -(p - 1) = -p + 1 by omega, Rat.zpow_add r10, Rat.zpow_one]
      have t : ((10 : Nat) : Rat) = 10 := rfl
      rw [t]
      generalize (10 : Rat) ^ (-p) = z
      grind
    · simp only; omega
    · simp only; omega
    · simp only; omega
    · simp only; omega
  · rw [if_neg c1]
    by_cases c2 : eMin ul o < eMax uh o
    · rw [if_pos c2]
      obtain ⟨a, b⟩ := h.rnd_in c2
      exact ⟨_, rnd um, rfl, a, b, rfl, Nat.le_refl _, id, by simp only; omega, by simp only; omega⟩
    · rw [if_neg c2]
      exact ⟨_, eMin ul o, rfl, Nat.le_refl _, hin, rfl, Nat.le_refl _, id, by simp only; omega, by simp only; omega⟩
theorem near_fin {V c vl vh : Rat} {D r : Nat} (hc : 0 < c) (hV : V * c = (D : Rat)) (hlo : 0 < r → ((midR (r - 1) : Nat) : Rat) * c = vl) (hhi : ((midR r : Nat) : Rat) * c = vh) (h1 : vl ≤ (D : Rat) ∧ (r % 2 = 1 → vl < (D : Rat))) (h2 : (D : Rat) ≤ vh ∧ (r % 2 = 1 → (D : Rat) < vh)) : Near V r := by
  refine ⟨fun h => ?_, fun h ho => ?_, ?_, fun ho => ?_⟩
  · exact Rat.le_of_mul_le_mul_right (c := c) (by rw [hlo h, hV]; exact h1.1) hc
  · exact Rat.lt_of_mul_lt_mul_right (c := c) (by rw [hlo h, hV]; exact h1.2 ho) (Rat.le_of_lt hc)
  · exact Rat.le_of_mul_le_mul_right (c := c) (by rw [hhi, hV]; exact h2.1) hc
  · exact Rat.lt_of_mul_lt_mul_right (c := c) (by rw [hhi, hV]; exact h2.2 ho) (Rat.le_of_lt hc)
/-- A float's mantissa, shifted so that its highest bit is that of the word. -/
structure Norm (k n s : Nat) : Prop where
  hk : k = 0 ∨ 4503599627370496 ≤ n
  n0 : 0 < n
  n1 : n < 9007199254740992
  k1 : k ≤ 2045
  m0 : 9223372036854775808 ≤ n * 2 ^ s
  m1 : n * 2 ^ s < 18446744073709551616
theorem Norm.shift {k n s : Nat} (h : Norm k n s) : 11 ≤ s ∧ s ≤ 63 ∧ (4503599627370496 ≤ n → s = 11) ∧ (n < 4503599627370496 → 12 ≤ s ∧ k = 0) := by
  obtain ⟨hk, n0, n1, k1, m0, m1⟩ := h
  have a : 11 ≤ s := by
    refine Nat.le_of_not_lt fun hc => ?_
    have : n * 2 ^ s ≤ n * 2 ^ 10 := Nat.mul_le_mul_left _ (Nat.pow_le_pow_right (by decide) (by omega))
    omega
  have b : s ≤ 63 := by
    refine Nat.le_of_not_lt fun hc => ?_
    have : n * 2 ^ 64 ≤ n * 2 ^ s := Nat.mul_le_mul_left _ (Nat.pow_le_pow_right (by decide) hc)
    omega
  refine ⟨a, b, fun hn => ?_, fun hn => ⟨?_, by omega⟩⟩
  · refine Nat.le_antisymm (Nat.le_of_not_lt fun hc => ?_) a
    have : n * 2 ^ 12 ≤ n * 2 ^ s := Nat.mul_le_mul_left _ (Nat.pow_le_pow_right (by decide) hc)
    omega
  · refine Nat.lt_of_le_of_ne a fun hc => ?_
    rw [← hc] at m0
    omega
theorem Norm.z {k n s : Nat} (h : Norm k n s) : Ff.sfZ ((k : Int) - 1074 - s) = s := by
  obtain ⟨a, b, c, d⟩ := h.shift
  unfold Ff.sfZ
  have := h.hk
  by_cases hn : 4503599627370496 ≤ n
  · have := c hn
    rw [if_pos (by omega)]
    omega
  · have := d (by omega)
    rw [if_neg (by omega)]
    omega
theorem Norm.odd {k n s : Nat} (h : Norm k n s) : Ff.sfOdd (n * 2 ^ s) ((k : Int) - 1074 - s) = n % 2 := by
  unfold Ff.sfOdd
  rw [h.z, Nat.mul_div_cancel _ (Nat.two_pow_pos _)]
theorem Norm.hi {k n y : Nat} (h : Norm k n (y + 1)) : Ff.sfHi (n * 2 ^ (y + 1)) ((k : Int) - 1074 - (y + 1 : Nat)) = (2 * n + 1) * 2 ^ y ∧ (2 * n + 1) * 2 ^ y < 18446744073709551616 := by
  have e : n * 2 ^ (y + 1) + 2 ^ y = (2 * n + 1) * 2 ^ y := by rw [Nat.pow_succ]; grind
  have l : (2 * n + 1) * 2 ^ y < 18446744073709551616 := by
    obtain ⟨a, b, _⟩ := h.shift
    have h2 := h.m1
    have e2 : (18446744073709551616 : Nat) = 2 ^ (63 - y) * 2 ^ (y + 1) := by
      rw [← Nat.pow_add, show 63 - y + (y + 1) = 64 by omega]
    rw [e2] at h2
    have h3 := Nat.lt_of_mul_lt_mul_right h2
    have h4 : (n + 1) * 2 ^ (y + 1) ≤ 2 ^ (63 - y) * 2 ^ (y + 1) := Nat.mul_le_mul_right _ h3
    rw [← e2] at h4
    have h5 : (n + 1) * 2 ^ (y + 1) = (2 * n + 1) * 2 ^ y + 2 ^ y := by rw [Nat.pow_succ]; grind
    have := Nat.two_pow_pos y
    omega
  refine ⟨?_, l⟩
  unfold Ff.sfHi
  rw [h.z, Nat.add_sub_cancel, e]
  exact Nat.mod_eq_of_lt l
/-- THE SHORTEST DIGITS: nearest to the float, and few. -/
theorem short_near {T : Int → Nat × Nat} (hT : TabPow T) {k n s : Nat} (h : Norm k n s) :
    ∃ R : Nat × Int, Ff.shortF T (n * 2 ^ s) ((k : Int) - 1074 - s) = R ∧ Near ((R.1 : Rat) * (10 : Rat) ^ R.2 * (2 : Rat) ^ (1075 : Int)) (k * 4503599627370496 + n) ∧ 0 < R.1 ∧ R.1 < 100000000000000000 ∧ -340 ≤ R.2 ∧ R.2 ≤ 341 := by
  obtain ⟨sa, sb, sc, sd⟩ := h.shift
  obtain ⟨y, rfl⟩ : ∃ y, s = y + 1 := ⟨s - 1, by omega⟩
  obtain ⟨E, hE⟩ : ∃ E, (k : Int) - 1074 - (y + 1 : Nat) = E := ⟨_, rfl⟩
  have hz := h.z
  have hod := h.odd
  obtain ⟨hhi, hhl⟩ := h.hi
  rw [hE] at hz hod hhi ⊢
  obtain ⟨m, hm⟩ : ∃ m, n * 2 ^ (y + 1) = m := ⟨_, rfl⟩
  have m0 := h.m0
  have m1 := h.m1
  rw [hm] at m0 m1 hod hhi ⊢
  obtain ⟨p, hp⟩ : ∃ p, Ff.sfP m E = p := ⟨_, rfl⟩
  obtain ⟨LO, hLO⟩ : ∃ x, Ff.sfLo m E = x := ⟨_, rfl⟩
  obtain ⟨HI, hHI⟩ : ∃ x, Ff.sfHi m E = x := ⟨_, rfl⟩
  obtain ⟨S, hS⟩ : ∃ x, (Ff.sfS m E).toNat = x := ⟨_, rfl⟩
  have n0 := h.n0
  have n1 := h.n1
  have k1 := h.k1
  have hk := h.hk
  obtain ⟨B, hB⟩ : ∃ B, (2 : Rat) ^ ((k : Int) - 1075) * (10 : Rat) ^ p = B := ⟨_, rfl⟩
  have hB0 : 0 < B := by rw [← hB]; exact Rat.mul_pos (p2 _) (p10 _)
  have hrpar : (k * 4503599627370496 + n) % 2 = n % 2 := by omega
  -- the ends, and what is between them
  have main : ∃ vl : Rat, Ends (usc LO (T p) S) (usc HI (T p) S) (usc m (T p) S) (n % 2) vl (2 * (n : Rat) * B) ((2 * (n : Rat) + 1) * B) ∧ (2 * (n : Rat) + 1) * B < ((100000000000000000 : Nat) : Rat) ∧
      (1 < (2 * (n : Rat) + 1) * B - vl ∨ (2 * (n : Rat) + 1) * B - vl = 1 ∧ ∃ n : Nat, vl = (n : Rat) + 1 / 2) ∧ vl ≤ 2 * (n : Rat) * B ∧ ((midR (k * 4503599627370496 + n - 1) : Nat) : Rat) * ((10 : Rat) ^ p * (2 : Rat) ^ (-1075 : Int)) = vl ∧ -340 ≤ p ∧ p ≤ 340 := by
    cases hsk : Ff.sfSk m E with
    | true =>
      have hsk2 : m = 9223372036854775808 ∧ -1085 < E := by
        unfold Ff.sfSk at hsk
        simpa [Bool.and_eq_true, decide_eq_true_eq] using hsk
      obtain ⟨hme, hEe⟩ := hsk2
      have hy : y = 10 := by
        by_cases hn : 4503599627370496 ≤ n
        · have := sc hn; omega
        · have := sd (by omega); omega
      subst hy
      have hn : n = 4503599627370496 := by omega
      subst hn
      have hk0 : 0 < k := by omega
      obtain ⟨j, rfl⟩ : ∃ j, k = j + 1 := ⟨k - 1, by omega⟩
      have hK : E + 11 = (j : Int) - 1073 := by omega
      have hP : p = -Ff.skw ((j : Int) - 1073) := by
        rw [← hp, ← hK]; unfold Ff.sfP; rw [hsk]; rfl
      obtain ⟨a1, a2, a3, a4, a5, a6⟩ := scale_s ((j : Int) - 1073) (by omega) (by omega)
      rw [← hP] at a1 a2 a3 a4
      have hS2 : (S : Int) = -(E + lpow p + 3) := by
        have : Ff.sfS m E = -(E + lpow p + 3) := by unfold Ff.sfS; rw [hp]
        omega
      have hLO2 : LO = 9223372036854775296 := by
        rw [← hLO]; unfold Ff.sfLo; rw [hsk, if_pos rfl, hme]
      have hHI2 : HI = 9223372036854776832 := by rw [← hHI, hhi]
      have hB2 : (2 : Rat) ^ ((j : Int) - 1073) * (10 : Rat) ^ p = 2 * B := by
        rw [← hB, show (j : Int) - 1073 = ((j : Int) + 1 - 1075) + 1 by omega, half2]
        push_cast
        generalize (2 : Rat) ^ ((j : Int) + 1 - 1075) = a
        generalize (10 : Rat) ^ p = b
        grind
      rw [hB2] at a1 a2
      have c1 : -348 ≤ p := by omega
      have c2 : p ≤ 347 := by omega
      have hcell := hT p c1 c2
      have uL := usc_UR (e := E) (s := S) (x := LO) (q := 144115188075855864) (j := 6) hcell c1 c2 (by rw [hLO2]; decide) (by omega) hS2 (by rw [hLO2]) (by omega) (by decide)
      have uH := usc_UR (e := E) (s := S) (x := HI) (q := 144115188075855888) (j := 6) hcell c1 c2 (by rw [hHI2]; decide) (by omega) hS2 (by rw [hHI2]) (by omega) (by decide)
      have uM := usc_UR (e := E) (s := S) (x := m) (q := 144115188075855872) (j := 6) hcell c1 c2 (by rw [hme]; decide) (by omega) hS2 (by rw [hme]) (by omega) (by decide)
      rw [up2 LO 9 18014398509481983 E p (by rw [hLO2])] at uL
      rw [up2 HI 10 9007199254740993 E p (by rw [hHI2])] at uH
      rw [up2 m 10 9007199254740992 E p (by rw [hme])] at uM
      have e9 : 2 * ((2 : Rat) ^ (((9 : Nat) : Int) + E) * (10 : Rat) ^ p) = B := by
        rw [← hB, show ((j + 1 : Nat) : Int) - 1075 = (((9 : Nat) : Int) + E) + 1 by omega, half2]
        generalize (2 : Rat) ^ (((9 : Nat) : Int) + E) = a
        generalize (10 : Rat) ^ p = b
        grind
      have e10 : (2 : Rat) ^ (((10 : Nat) : Int) + E) * (10 : Rat) ^ p = B := by
        rw [← hB, show ((j + 1 : Nat) : Int) - 1075 = ((10 : Nat) : Int) + E by omega]
      rw [e10] at uH uM
      obtain ⟨C, hC⟩ : ∃ C, (2 : Rat) ^ (((9 : Nat) : Int) + E) * (10 : Rat) ^ p = C := ⟨_, rfl⟩
      rw [hC] at uL e9
      have t1 : ((9007199254740993 : Nat) : Rat) = 9007199254740993 := rfl
      have t2 : ((9007199254740992 : Nat) : Rat) = 9007199254740992 := rfl
      have t3 : ((18014398509481983 : Nat) : Rat) = 18014398509481983 := rfl
      have t4 : ((4503599627370496 : Nat) : Rat) = 4503599627370496 := rfl
      have t5 : ((100000000000000000 : Nat) : Rat) = 100000000000000000 := rfl
      rw [t1] at uH
      rw [t2] at uM
      rw [t3] at uL
      rw [t4, t5]
      have x1 : (2 * (4503599627370496 : Rat) + 1) * B = 9007199254740993 * B := by grind
      have x2 : 2 * (4503599627370496 : Rat) * B = 9007199254740992 * B := by grind
      rw [x1, x2]
      have hC0 : 0 < C := by grind
      refine ⟨18014398509481983 * C, ⟨uL, uH, uM, Nat.mod_lt _ (by decide), by grind, by grind, by grind, uH.one (by grind)⟩, by grind, .inl (by grind), by grind, ?_, by omega, by omega⟩
      rw [show (j + 1) * 4503599627370496 + 4503599627370496 - 1 = j * 4503599627370496 + 9007199254740991 by omega, midR_form (.inr (by omega)) (by omega), Rat.natCast_mul, cast2, ← hC]
      have t6 : ((2 * 9007199254740991 + 1 : Nat) : Rat) = 18014398509481983 := rfl
      rw [t6]
      have e7 : (2 : Rat) ^ (j : Int) * (2 : Rat) ^ (-1075 : Int) = (2 : Rat) ^ (((9 : Nat) : Int) + E) := by
        rw [← Rat.zpow_add r2]; congr 1; omega
      rw [← e7]
      generalize (2 : Rat) ^ (j : Int) = a
      generalize (2 : Rat) ^ (-1075 : Int) = b
      generalize (10 : Rat) ^ p = c
      grind
    | false =>
      have hK : E + (y + 1 : Nat) = (k : Int) - 1074 := by omega
      have hP : p = -Ff.l10 ((k : Int) - 1074) := by
        rw [← hp, ← hK]; unfold Ff.sfP; rw [hsk, hz]; rfl
      obtain ⟨a1, a2, a3, a4, a5, a6⟩ := scale_l ((k : Int) - 1074) (by omega) (by omega)
      rw [← hP] at a1 a2 a3 a4
      have hS2 : (S : Int) = -(E + lpow p + 3) := by
        have : Ff.sfS m E = -(E + lpow p + 3) := by unfold Ff.sfS; rw [hp]
        omega
      have hnot : ¬ (0 < k ∧ n = 4503599627370496) := by
        rintro ⟨hk0, rfl⟩
        have hy := sc (by omega)
        have hy2 : y = 10 := by omega
        subst hy2
        have : Ff.sfSk m E = true := by
          unfold Ff.sfSk
          rw [Bool.and_eq_true, decide_eq_true_eq, decide_eq_true_eq]
          omega
        rw [this] at hsk
        cases hsk
      have hLO2 : LO = (2 * n - 1) * 2 ^ y := by
        rw [← hLO]; unfold Ff.sfLo; rw [hsk, hz, ← hm]
        simp only [Bool.false_eq_true, if_false, Nat.add_sub_cancel]
        rw [Nat.pow_succ, Nat.sub_mul]
        have : n * (2 ^ y * 2) = 2 * n * 2 ^ y := by grind
        omega
      have hB2 : (2 : Rat) ^ ((k : Int) - 1074) * (10 : Rat) ^ p = 2 * B := by
        rw [← hB, show (k : Int) - 1074 = ((k : Int) - 1075) + 1 by omega, half2]
        generalize (2 : Rat) ^ ((k : Int) - 1075) = a
        generalize (10 : Rat) ^ p = b
        grind
      rw [hB2] at a1 a2
      have c1 : -348 ≤ p := by omega
      have c2 : p ≤ 347 := by omega
      have hcell := hT p c1 c2
      obtain ⟨z, rfl⟩ : ∃ z, y = z + 3 := ⟨y - 3, by omega⟩
      have hp3 : 2 ^ (z + 3) = 8 * 2 ^ z := by rw [Nat.pow_add]; omega
      have lo62 : 4611686018427387904 ≤ LO := by
        rw [hLO2]
        have b1 : n * 2 ^ (z + 3) ≤ (2 * n - 1) * 2 ^ (z + 3) := Nat.mul_le_mul_right _ (by omega)
        have b2 : n * 2 ^ (z + 3 + 1) = 2 * (n * 2 ^ (z + 3)) := by rw [Nat.pow_succ]; grind
        omega
      have loU : LO < HI := by
        rw [hLO2, ← hHI, hhi]
        exact (Nat.mul_lt_mul_right (Nat.two_pow_pos _)).2 (by omega)
      have hHI2 : HI = (2 * n + 1) * 2 ^ (z + 3) := by rw [← hHI, hhi]
      have uL := usc_UR (e := E) (s := S) (x := LO) (q := (2 * n - 1) * 8) (j := z) hcell c1 c2 (by unfold two64; omega) lo62 hS2 (by rw [hLO2, hp3, Nat.mul_assoc]) (by omega) (by unfold qMax; omega)
      have uH := usc_UR (e := E) (s := S) (x := HI) (q := (2 * n + 1) * 8) (j := z) hcell c1 c2 (by unfold two64; omega) (by omega) hS2 (by rw [hHI2, hp3, Nat.mul_assoc]) (by omega) (by unfold qMax; omega)
      have uM := usc_UR (e := E) (s := S) (x := m) (q := n * 16) (j := z) hcell c1 c2 m1 (by omega) hS2 (by rw [← hm, Nat.pow_succ, hp3]; grind) (by omega) (by unfold qMax; omega)
      rw [up2 LO (z + 3) (2 * n - 1) E p hLO2] at uL
      rw [up2 HI (z + 3) (2 * n + 1) E p hHI2] at uH
      rw [up2 m (z + 3) (2 * n) E p (by rw [← hm, Nat.pow_succ]; grind)] at uM
      have e10 : (2 : Rat) ^ (((z + 3 : Nat) : Int) + E) * (10 : Rat) ^ p = B := by
        rw [← hB, show (k : Int) - 1075 = ((z + 3 : Nat) : Int) + E by omega]
      rw [e10] at uL uH uM
      rw [cast1, casttw] at uH
      rw [casttw] at uM
      obtain ⟨w, hw⟩ : ∃ w, n = w + 1 := ⟨n - 1, by omega⟩
      have tL : ((2 * n - 1 : Nat) : Rat) = 2 * (n : Rat) - 1 := by
        rw [show 2 * n - 1 = 2 * w + 1 by omega, hw, cast1, cast1, casttw]
        grind
      rw [tL] at uL
      have n1r : (1 : Rat) ≤ (n : Rat) := by
        have := castle (show 1 ≤ n by omega)
        exact this
      have n2r : (n : Rat) ≤ 9007199254740991 := by
        have := castle (show n ≤ 9007199254740991 by omega)
        exact this
      have hnB : (n : Rat) * B ≤ 9007199254740991 * B := Rat.mul_le_mul_of_nonneg_right n2r (Rat.le_of_lt hB0)
      have hB1 : (1 : Rat) * B ≤ (n : Rat) * B := Rat.mul_le_mul_of_nonneg_right n1r (Rat.le_of_lt hB0)
      have t5 : ((100000000000000000 : Nat) : Rat) = 100000000000000000 := rfl
      rw [t5]
      obtain ⟨X, hX⟩ : ∃ X, (n : Rat) * B = X := ⟨_, rfl⟩
      have x1 : (2 * (n : Rat) + 1) * B = 2 * X + B := by grind
      have x2 : 2 * (n : Rat) * B = 2 * X := by grind
      have x3 : (2 * (n : Rat) - 1) * B = 2 * X - B := by grind
      rw [hX] at hnB hB1
      rw [x1] at uH
      rw [x2] at uM
      rw [x3] at uL
      rw [x1, x2]
      refine ⟨2 * X - B, ⟨uL, uH, uM, Nat.mod_lt _ (by decide), by grind, by grind, by grind, uH.one (by grind)⟩, by grind, ?_, by grind, ?_, by omega, by omega⟩
      · rcases a1 with a1 | ⟨hk1, a1⟩
        · exact .inl (by grind)
        · refine .inr ⟨by grind, w, ?_⟩
          have : (n : Rat) = (w : Rat) + 1 := by rw [hw, cast1]
          rw [this] at hX
          grind
      · rw [show k * 4503599627370496 + n - 1 = k * 4503599627370496 + w by omega, midR_form (by omega) (by omega), Rat.natCast_mul, cast2, cast1, casttw]
        have hnw : (n : Rat) = (w : Rat) + 1 := by rw [hw, cast1]
        rw [hnw] at hX
        rw [← hX, ← hB, Int.sub_eq_add_neg, Rat.zpow_add r2]
        generalize (2 : Rat) ^ (k : Int) = a
        generalize (2 : Rat) ^ (-1075 : Int) = b
        generalize (10 : Rat) ^ p = c
        grind
  obtain ⟨vl, hends, hv17, hw, hlm, hmid, pa, pb⟩ := main
  have hmh : 2 * (n : Rat) * B ≤ (2 * (n : Rat) + 1) * B := by grind
  obtain ⟨R, D, hR, d1, d2, d3, d4, d5, d6, d7⟩ := choose hends hv17 hmh hlm (hends.some_in hw) p
  have l1 := hends.min_le d1
  have l2 := hends.le_max d2
  have hpos := hends.pos
  refine ⟨R, ?_, ?_, ?_, ?_, by omega, by omega⟩
  · unfold Ff.shortF
    simp only
    rw [hp, hLO, hHI, hS, hod]
    exact hR
  · have hcpos : (0 : Rat) < (10 : Rat) ^ p * (2 : Rat) ^ (-1075 : Int) := Rat.mul_pos (p10 _) (p2 _)
    refine near_fin hcpos (D := D) (vh := (2 * (n : Rat) + 1) * B) ?_ (fun _ => hmid) ?_ ?_ ?_
    · rw [d3]
      have t1 : (10 : Rat) ^ (-p) * (10 : Rat) ^ p = 1 := by rw [← Rat.zpow_add r10, show -p + p = 0 by omega, Rat.zpow_zero]
      have t2 : (2 : Rat) ^ (1075 : Int) * (2 : Rat) ^ (-1075 : Int) = 1 := by rw [← Rat.zpow_add r2, show (1075 : Int) + -1075 = 0 by omega, Rat.zpow_zero]
      generalize (10 : Rat) ^ (-p) = a at *
      generalize (10 : Rat) ^ p = b at *
      generalize (2 : Rat) ^ (1075 : Int) = c at *
      generalize (2 : Rat) ^ (-1075 : Int) = d at *
      clear hmid hB
      grind
    · rw [midR_form hk n1, Rat.natCast_mul, cast2, cast1, casttw, ← hB, Int.sub_eq_add_neg, Rat.zpow_add r2]
      generalize (2 : Rat) ^ (k : Int) = a
      generalize (2 : Rat) ^ (-1075 : Int) = b
      generalize (10 : Rat) ^ p = c
      grind
    · rw [hrpar]; exact l1
    · rw [hrpar]; exact l2
  · refine d5 ?_
    have : (0 : Rat) < (D : Rat) := by grind
    exact Rat.natCast_pos.1 this
  · have : (D : Rat) < ((100000000000000000 : Nat) : Rat) := by grind
    have := Rat.natCast_lt_natCast.1 this
    omega
end PF
/- What a value's text is read as, in plain Lean: numbers, quoted texts. No condition. -/
namespace PF
open Go
/-- Digits as a number. -/
def numD (l : List UInt8) : Nat := l.foldl (fun n c => n * 10 + (c.toNat - 48)) 0
theorem numD_foldl (l : List UInt8) (n : Nat) : l.foldl (fun n c => n * 10 + (c.toNat - 48)) n = n * 10 ^ l.length + numD l := by
  induction l generalizing n with
  | nil => simp [numD]
  | cons c t ih =>
    simp only [List.foldl_cons, List.length_cons, numD]
    rw [ih, ih (0 * 10 + (c.toNat - 48)), Nat.pow_succ]
    simp only [Nat.zero_mul, Nat.zero_add, Nat.add_mul]
    have : n * 10 * 10 ^ t.length = n * (10 ^ t.length * 10) := by rw [Nat.mul_assoc, Nat.mul_comm 10]
    omega
theorem numD_snoc (l : List UInt8) (c : UInt8) : numD (l ++ [c]) = numD l * 10 + (c.toNat - 48) := by
  unfold numD
  rw [List.foldl_append]
  rfl
theorem numD_le (a b : List UInt8) : numD a ≤ numD (a ++ b) := by
  unfold numD
  rw [List.foldl_append, numD_foldl b]
  have := Nat.pow_pos (n := b.length) (show 0 < 10 by omega)
  have : List.foldl (fun n c => n * 10 + (c.toNat - 48)) 0 a * 1 ≤ List.foldl (fun n c => n * 10 + (c.toNat - 48)) 0 a * 10 ^ b.length := Nat.mul_le_mul_left _ this
  omega
/-- An integer's text: the number, and the error's number. -/
def intP (l : List UInt8) : Int × Int :=
  if 1 ≤ (body l).length ∧ (body l).length ≤ 25 ∧ (body l).all isDig = true then
    if isNeg l then (if numD (body l) ≤ 9223372036854775808 then (-(numD (body l) : Int), 0) else (0, 3))
    else (if numD (body l) < 9223372036854775808 then ((numD (body l) : Int), 0) else (0, 3))
  else (0, 2)
theorem uintM (M : Nat) : ∀ (l : List UInt8) (acc : Nat), M = 18446744073709551615 → l.all isDig = true → acc ≤ M → Lib.parseUintM M acc l = if l.foldl (fun n c => n * 10 + (c.toNat - 48)) acc ≤ M then .ok (l.foldl (fun n c => n * 10 + (c.toNat - 48)) acc) else .range
  | [], acc, _, _, h => by simp [Lib.parseUintM, h]
  | c :: r, acc, hM, hl, h => by
    simp only [List.all_cons, Bool.and_eq_true] at hl
    have hc := hl.1
    simp only [isDig, Bool.and_eq_true, decide_eq_true_eq] at hc
    have hmono : acc * 10 + (c.toNat - 48) ≤ r.foldl (fun n c => n * 10 + (c.toNat - 48)) (acc * 10 + (c.toNat - 48)) := by
      rw [numD_foldl]
      have := Nat.pow_pos (n := r.length) (show 0 < 10 by omega)
      have : (acc * 10 + (c.toNat - 48)) * 1 ≤ (acc * 10 + (c.toNat - 48)) * 10 ^ r.length := Nat.mul_le_mul_left _ this
      omega
    unfold Lib.parseUintM
    rw [if_pos hc, List.foldl_cons]
    by_cases h1 : 1844674407370955162 ≤ acc
    · rw [if_pos h1, if_neg (by omega)]
    · rw [if_neg h1]
      by_cases h2 : M < acc * 10 + (c.toNat - 48)
      · rw [if_pos h2, if_neg (by omega)]
      · rw [if_neg h2, uintM M r _ hM hl.2 (by omega)]
theorem body_neg (r : List UInt8) : body (45 :: r) = r ∧ isNeg (45 :: r) = true := ⟨rfl, rfl⟩
theorem body_pos {l : List UInt8} (h : ∀ r, l ≠ 45 :: r) : body l = l ∧ isNeg l = false := by
  constructor
  · unfold body
    split
    · rename_i r; exact absurd rfl (h r)
    · rfl
  · unfold isNeg
    split
    · rename_i r; exact absurd rfl (h r)
    · rfl
/-- ParseInt at digits behind perhaps a sign. -/
theorem parseInt_eq {l : List UInt8} (h1 : 1 ≤ (body l).length) (h2 : (body l).all isDig = true) :
    Lib.parseIntB 64 l = if isNeg l then (if numD (body l) ≤ 9223372036854775808 then .ok (-(numD (body l) : Int)) else .range) else (if numD (body l) < 9223372036854775808 then .ok (numD (body l) : Int) else .range) := by
  have key : ∀ u : List UInt8, 1 ≤ u.length → u.all isDig = true → Lib.parseUintB 64 u = if numD u ≤ 18446744073709551615 then .ok (numD u) else .range := by
    intro u hu hd
    unfold Lib.parseUintB
    rw [if_neg (by intro e; rw [e] at hu; simp at hu), uintM (2 ^ 64 - 1) u 0 (by decide) hd (by omega)]
    rfl
  by_cases hc : ∃ r, l = 45 :: r
  · obtain ⟨r, rfl⟩ := hc
    rw [(body_neg r).1] at h1 h2 ⊢
    rw [(body_neg r).2, if_pos rfl]
    have k := key r h1 h2
    unfold Lib.parseIntB
    simp only
    rw [if_pos (by decide), k]
    by_cases h3 : numD r ≤ 9223372036854775808
    · rw [if_pos h3, if_pos (by omega)]
      simp only
      rw [if_neg (by rintro ⟨h, _⟩; exact h rfl), if_neg (by intro h; have h := h.2; simp at h; omega), if_pos (by decide)]
    · rw [if_neg h3]
      by_cases h4 : numD r ≤ 18446744073709551615
      · rw [if_pos h4]
        simp only
        rw [if_neg (by rintro ⟨h, _⟩; exact h rfl), if_pos ⟨by decide, by simp; omega⟩]
      · rw [if_neg h4]
  · have hb := body_pos (l := l) (fun r e => hc ⟨r, e⟩)
    rw [hb.1] at h1 h2 ⊢
    rw [hb.2, if_neg (by decide)]
    have k := key l h1 h2
    cases l with
    | nil => simp at h1
    | cons c r =>
      have hcd : isDig c = true := by simp only [List.all_cons, Bool.and_eq_true] at h2; exact h2.1
      simp only [isDig, Bool.and_eq_true, decide_eq_true_eq] at hcd
      have hn : ¬(c.toNat = 45) := by omega
      have hn2 : ¬(c.toNat = 43 ∨ c.toNat = 45) := by omega
      unfold Lib.parseIntB
      simp only
      rw [if_neg hn2, k]
      by_cases h3 : numD (c :: r) < 9223372036854775808
      · rw [if_pos h3, if_pos (by omega)]
        simp only
        rw [if_neg (by intro h; have h := h.2; simp at h; omega), if_neg (fun h => hn h.1), if_neg hn]
      · rw [if_neg h3]
        by_cases h4 : numD (c :: r) ≤ 18446744073709551615
        · rw [if_pos h4]
          simp only
          rw [if_pos ⟨hn, by simp; omega⟩]
        · rw [if_neg h4]
/-- What stands behind the digits of a float's text. -/
def tailE : List UInt8 → Bool
  | [] => true
  | c :: r => (decide (c = 101) || decide (c = 69)) && okX r
def tailM : List UInt8 → Bool
  | 46 :: r => !(r.takeWhile isDig).isEmpty && tailE (r.dropWhile isDig)
  | r => tailE r
theorem okM_digits (dot : Bool) : ∀ (l : List UInt8) (saw : Bool), okM dot saw l = okM dot (saw || !(l.takeWhile isDig).isEmpty) (l.dropWhile isDig)
  | [], saw => by simp
  | c :: r, saw => by
    by_cases h : isDig c = true
    · rw [List.takeWhile_cons, List.dropWhile_cons, if_pos h, if_pos h]
      conv => lhs; unfold okM
      rw [if_pos h, okM_digits dot r true]
      simp
    · rw [List.takeWhile_cons, List.dropWhile_cons, if_neg h, if_neg h]
      simp
theorem drop_head {l r : List UInt8} {c : UInt8} (h : l.dropWhile isDig = c :: r) : isDig c = false := by
  induction l with
  | nil => cases h
  | cons a t ih =>
    by_cases ha : isDig a = true
    · rw [List.dropWhile_cons, if_pos ha] at h; exact ih h
    · rw [List.dropWhile_cons, if_neg ha] at h
      injection h with h1 _
      rw [← h1]; simpa using ha
theorem okM_true {r : List UInt8} (h : ∀ c t, r = c :: t → isDig c = false) : okM true true r = tailE r := by
  cases r with
  | nil => rfl
  | cons c t =>
    have hc := h c t rfl
    unfold okM tailE
    rw [if_neg (by rw [hc]; decide)]
    by_cases h46 : c = 46
    · subst h46
      rw [if_pos rfl]
      rfl
    · rw [if_neg h46]; simp
/-- A float's text, part by part. -/
theorem okM_parts (l : List UInt8) : okM false false l = (!(l.takeWhile isDig).isEmpty && tailM (l.dropWhile isDig)) := by
  rw [okM_digits, Bool.false_or]
  have hh : ∀ c t, l.dropWhile isDig = c :: t → isDig c = false := fun c t h => drop_head h
  cases he : (l.takeWhile isDig).isEmpty with
  | true =>
    rw [Bool.not_true, Bool.false_and]
    cases hr : l.dropWhile isDig with
    | nil => rfl
    | cons c t =>
      have hc := hh c t hr
      unfold okM
      rw [if_neg (by rw [hc]; decide)]
      split <;> simp
  | false =>
    rw [Bool.not_false, Bool.true_and]
    cases hr : l.dropWhile isDig with
    | nil => rfl
    | cons c t =>
      have hc := hh c t hr
      by_cases h46 : c = 46
      · subst h46
        have e1 : okM false true (46 :: t) = okM true false t := by
          conv => lhs; unfold okM
          rw [if_neg (by rw [hc]; decide), if_pos rfl]
          rfl
        have e2 : tailM (46 :: t) = (!(t.takeWhile isDig).isEmpty && tailE (t.dropWhile isDig)) := rfl
        rw [e1, e2, okM_digits, Bool.false_or]
        cases ht : (t.takeWhile isDig).isEmpty with
        | true =>
          rw [Bool.not_true, Bool.false_and]
          cases hr2 : t.dropWhile isDig with
          | nil => rfl
          | cons d u =>
            have hd := drop_head hr2
            unfold okM
            rw [if_neg (by rw [hd]; decide)]
            split <;> simp
        | false =>
          rw [Bool.not_false, Bool.true_and]
          exact okM_true fun d u h => drop_head h
      · have e2 : tailM (c :: t) = tailE (c :: t) := by
          unfold tailM
          split
          · rename_i r h; injection h with h1 _; exact absurd h1 h46
          · rfl
        rw [e2]
        unfold okM tailE
        rw [if_neg (by rw [hc]; decide), if_neg h46]
        simp
/-- What stands between quotes, the last of them still there. -/
def unq : List UInt8 → Option (List UInt8)
  | [] => none
  | [c] => if c = 34 then some [] else none
  | c :: d :: r => if c = 34 ∨ c = 10 then none else if c = 92 then (if d = 34 ∨ d = 92 then (unq r).map (d :: ·) else if d = 110 then (unq r).map (10 :: ·) else none) else (unq (d :: r)).map (c :: ·)
end PF
