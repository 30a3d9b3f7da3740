/- Several texts of this proof, laid together. Conditions: as each says. -/
import Derived.Test.YtagiddbfhlokcaaGreatDoorMAH
import Derived.Test.YtagiddbfhlokcaaGreatDoorMAI
import Derived.Test.YtagiddbfhlokcaaGreatDoorMAJ
import Derived.Test.YtagiddbfhlokcaaGreatDoorMAG
import Derived.Lib.Atoi
import Derived.Lib.Bytealg
/- A float's text is read as the float. Conditions: the tables of powers. -/
namespace PF
open Go
set_option exponentiation.threshold 3000
theorem exD_eq : ∀ (L : List UInt8) (e : Nat), L.all isDig = true → e * 10 ^ L.length + numD L < 100000 → exD L e = e * 10 ^ L.length + numD L
  | [], e, _, _ => by simp [exD, numD]
  | c :: L, e, hl, h => by
    simp only [List.all_cons, Bool.and_eq_true] at hl
    rw [numD_cons, List.length_cons, Nat.pow_succ] at h
    have h10 := Nat.pow_pos (n := L.length) (show 0 < 10 by omega)
    have he : e < 10000 := by
      refine Nat.lt_of_not_le fun hc => ?_
      have : 10000 * (1 * 10) ≤ e * (10 ^ L.length * 10) := Nat.mul_le_mul hc (Nat.mul_le_mul_right _ h10)
      omega
    have e1 : (e * 10 + (c.toNat - 48)) * 10 ^ L.length = e * (10 ^ L.length * 10) + (c.toNat - 48) * 10 ^ L.length := by grind
    have : exD (c :: L) e = exD L (if e < 10000 then e * 10 + (c.toNat - 48) else e) := rfl
    rw [this, if_pos he, exD_eq L _ hl.2 (by rw [e1]; omega), numD_cons, List.length_cons, Nat.pow_succ, e1]
    omega
theorem exV_itoa {X : Int} (h1 : -99999 ≤ X) (h2 : X ≤ 99999) : exV (101 :: Lib.itoa X) = X := by
  have key : ∀ u : Nat, u < 100000 → exD (Lib.decDigits u) 0 = u := by
    intro u hu
    obtain ⟨a, b⟩ := dec_num u
    rw [exD_eq _ 0 b (by rw [a]; omega), a]
    omega
  unfold Lib.itoa
  by_cases h : X < 0
  · rw [if_pos h]
    show -((exD (Lib.decDigits X.natAbs) 0 : Nat) : Int) = X
    rw [key _ (by omega)]
    omega
  · rw [if_neg h]
    have hk := key X.toNat (by omega)
    obtain ⟨a, b⟩ := dec_num X.toNat
    cases hd : Lib.decDigits X.toNat with
    | nil =>
      rw [hd] at hk
      have : exD [] 0 = 0 := rfl
      rw [this] at hk
      show ((exD [] 0 : Nat) : Int) = X
      rw [this]
      omega
    | cons c r =>
      rw [hd] at hk b
      simp only [List.all_cons, Bool.and_eq_true] at b
      have hc := b.1
      unfold isDig at hc
      rw [Bool.and_eq_true, decide_eq_true_eq, decide_eq_true_eq] at hc
      have n1 : c ≠ 45 := fun e => by rw [e] at hc; have : (45 : UInt8).toNat = 45 := rfl; omega
      have n2 : c ≠ 43 := fun e => by rw [e] at hc; have : (43 : UInt8).toNat = 43 := rfl; omega
      have e : exV (101 :: c :: r) = ((exD (c :: r) 0 : Nat) : Int) := by
        unfold exV
        split
        · rename_i h; injection h with _ h; injection h with h _; exact absurd h n1
        · rename_i h; injection h with _ h; injection h with h _; exact absurd h n2
        · rename_i heq; injection heq with _ heq; rw [heq]
        · rename_i h; cases h
      rw [e, hk]
      omega
theorem numD_lt : ∀ (L : List UInt8), L.all isDig = true → numD L < 10 ^ L.length
  | [], _ => by decide
  | c :: L, h => by
    simp only [List.all_cons, Bool.and_eq_true] at h
    have ih := numD_lt L h.2
    have hc := h.1
    unfold isDig at hc
    rw [Bool.and_eq_true, decide_eq_true_eq, decide_eq_true_eq] at hc
    rw [numD_cons, List.length_cons, Nat.pow_succ]
    have : (c.toNat - 48) * 10 ^ L.length ≤ 9 * 10 ^ L.length := Nat.mul_le_mul_right _ (by omega)
    omega
theorem digs_pos {c : UInt8} {r : List UInt8} (h : (c :: r).all isDig = true) (hc : c ≠ 48) : 0 < numD (c :: r) := by
  simp only [List.all_cons, Bool.and_eq_true] at h
  have h1 := h.1
  unfold isDig at h1
  rw [Bool.and_eq_true, decide_eq_true_eq, decide_eq_true_eq] at h1
  have h2 : c.toNat ≠ 48 := fun e => hc (UInt8.toNat_inj.1 e)
  have h10 := Nat.pow_pos (n := r.length) (show 0 < 10 by omega)
  rw [numD_cons]
  have : 1 * 1 ≤ (c.toNat - 48) * 10 ^ r.length := Nat.mul_le_mul (by omega) h10
  omega
/-- A digit ahead: no sign. -/
theorem body_dig {c : UInt8} {r : List UInt8} (h : isDig c = true) : body (c :: r) = c :: r ∧ isNeg (c :: r) = false := by
  refine body_pos fun t e => ?_
  injection e with e _
  rw [e] at h
  revert h
  decide
theorem sg_read (neg : Bool) {c : UInt8} {r : List UInt8} (h : isDig c = true) : readF (sgT neg ++ c :: r) = readF (c :: r) ∧ isNeg (sgT neg ++ c :: r) = neg ∧ body (sgT neg ++ c :: r) = c :: r := by
  obtain ⟨h1, h2⟩ := body_dig (r := r) h
  cases neg with
  | false => exact ⟨rfl, h2, h1⟩
  | true =>
    refine ⟨?_, rfl, rfl⟩
    show readF (45 :: c :: r) = _
    unfold readF
    rw [h1]
    rfl
/-- Digits: the first no nought, at most 17. -/
structure DigL (D : List UInt8) : Prop where
  all : D.all isDig = true
  head : ∃ c r, D = c :: r ∧ c ≠ 48
  len : D.length ≤ 17
theorem DigL.pos {D : List UInt8} (h : DigL D) : 0 < numD D ∧ 1 ≤ D.length := by
  obtain ⟨a, ⟨c, r, rfl, hc⟩, _⟩ := h
  exact ⟨digs_pos a hc, by simp⟩
theorem DigL.lt {D : List UInt8} (h : DigL D) : numD D < 100000000000000000 := by
  have := numD_lt D h.all
  have : 10 ^ D.length ≤ 10 ^ 17 := Nat.pow_le_pow_right (by decide) h.len
  omega
/-- What readFloat makes of a float's text. -/
theorem read_flTx {D : List UInt8} {dp : Int} (h : DigL D) (h1 : -1000 ≤ dp) (h2 : dp ≤ 1000) (neg : Bool) :
    ∃ man ex, readF (flTx neg D dp) = (man, ex, false) ∧ isNeg (flTx neg D dp) = neg ∧ 0 < man ∧ man ≤ qMax ∧ (man : Rat) * (10 : Rat) ^ ex = (numD D : Rat) * (10 : Rat) ^ (dp - D.length) := by
  obtain ⟨np, nl⟩ := h.pos
  have nlt := h.lt
  have hl := h.len
  obtain ⟨all, ⟨c, r, rfl, hc⟩, _⟩ := h
  have hcd : isDig c = true := by simp only [List.all_cons, Bool.and_eq_true] at all; exact all.1
  have hrd : r.all isDig = true := by simp only [List.all_cons, Bool.and_eq_true] at all; exact all.2
  unfold flTx
  have hX : fX (c :: r) dp = dp - 1 := by unfold fX; rw [if_neg (by simp)]
  rw [hX]
  by_cases hf : -4 ≤ dp - 1 ∧ dp - 1 ≤ 15
  · rw [if_pos hf]
    unfold fmtF
    by_cases hd : 0 < dp
    · rw [if_pos hd]
      obtain ⟨q, rfl⟩ : ∃ q : Nat, dp = q := ⟨dp.toNat, by omega⟩
      rw [Int.toNat_natCast]
      by_cases hn : (q : Int) < ((c :: r).length : Nat)
      · -- digits on both sides of the dot
        rw [if_pos hn]
        obtain ⟨j, rfl⟩ : ∃ j, q = j + 1 := ⟨q - 1, by omega⟩
        have e1 : List.replicate (j + 1 - (c :: r).length) (48 : UInt8) = [] := by rw [show j + 1 - (c :: r).length = 0 by omega]; rfl
        have e2 : List.replicate (-((j + 1 : Nat) : Int)).toNat (48 : UInt8) = [] := by rw [show (-((j + 1 : Nat) : Int)).toNat = 0 by omega]; rfl
        rw [e1, e2, List.append_nil, List.nil_append, List.take_succ_cons, List.drop_succ_cons, List.cons_append]
        obtain ⟨s1, s2, _⟩ := sg_read neg (c := c) (r := r.take j ++ 46 :: r.drop j) hcd
        have eT : numD ((c :: r.take j) ++ r.drop j) = numD (c :: r) := by rw [List.cons_append, List.take_append_drop]
        have rd := read_dot (A := c :: r.take j) (B := r.drop j) (r := []) (by simp only [List.all_cons, Bool.and_eq_true]; exact ⟨hcd, List.all_eq_true.2 fun x hx => List.all_eq_true.1 hrd x (List.mem_of_mem_take hx)⟩) (List.all_eq_true.2 fun x hx => List.all_eq_true.1 hrd x (List.mem_of_mem_drop hx)) (by simp only [List.length_cons, List.length_take, List.length_drop] at hl ⊢; omega) (.inl rfl) (body_dig hcd).1 (by rw [eT]; omega)
        rw [eT, List.append_nil] at rd
        refine ⟨_, _, s1.trans rd, s2, np, by unfold qMax; omega, ?_⟩
        congr 2
        simp only [List.length_cons, List.length_drop] at hn ⊢
        show (0 : Int) - _ = _
        omega
      · rw [if_neg hn, List.append_nil]
        have e1 : (c :: r).take q = c :: r := List.take_of_length_le (by omega)
        rw [e1, List.cons_append]
        obtain ⟨z, hz⟩ : ∃ z, q - (c :: r).length = z := ⟨_, rfl⟩
        rw [hz]
        obtain ⟨s1, s2, _⟩ := sg_read neg (c := c) (r := r ++ List.replicate z 48) hcd
        have eT : numD ((c :: r) ++ List.replicate z 48) = numD (c :: r) * 10 ^ z := by rw [numD_append, numD_zeros, List.length_replicate, Nat.add_zero]
        have hall : ((c :: r) ++ List.replicate z 48).all isDig = true := by
          rw [List.all_append, all, Bool.true_and, List.all_replicate]
          split
          · rfl
          · decide
        have hlen : ((c :: r) ++ List.replicate z 48).length = q := by rw [List.length_append, List.length_replicate]; omega
        have rd := read_int (A := (c :: r) ++ List.replicate z 48) (r := []) hall (by rw [hlen]; omega) (.inl rfl) (by rw [List.append_nil, List.cons_append]; exact (body_dig hcd).1) (by rw [eT]; have := Nat.mul_pos np (Nat.pow_pos (n := z) (show 0 < 10 by omega)); omega)
        have hlt := numD_lt _ hall
        rw [hlen] at hlt
        have hq : 10 ^ q ≤ 10 ^ 16 := Nat.pow_le_pow_right (by decide) (by omega)
        rw [List.append_nil, List.cons_append] at rd
        refine ⟨_, _, s1.trans rd, s2, ?_, ?_, ?_⟩
        · rw [← List.cons_append, eT]; exact Nat.mul_pos np (Nat.pow_pos (by decide))
        · rw [← List.cons_append]; unfold qMax; omega
        · rw [← List.cons_append, eT, Rat.natCast_mul, cast10]
          show _ * (10 : Rat) ^ (0 : Int) = _
          rw [Rat.zpow_zero, Rat.mul_one]
          congr 2
          omega
    · rw [if_neg hd, if_pos (by omega)]
      have e2 : dp.toNat = 0 := by omega
      rw [e2, List.drop_zero]
      obtain ⟨z, hz⟩ : ∃ z, (-dp).toNat = z := ⟨_, rfl⟩
      rw [hz]
      obtain ⟨s1, s2, _⟩ := sg_read neg (c := 48) (r := 46 :: (List.replicate z 48 ++ (c :: r))) (by decide)
      have rd := read_small (D := c :: r) (r := []) (z := z) all (by omega) (.inl rfl) (by omega)
      rw [List.append_nil] at rd
      refine ⟨_, _, s1.trans rd, s2, np, by unfold qMax; omega, ?_⟩
      congr 2
      show (0 : Int) - _ = _
      omega
  · rw [if_neg hf]
    unfold fmtM
    rw [List.append_assoc]
    have eh : (c :: r).headD 48 = c := rfl
    have et : (c :: r).tail = r := rfl
    rw [eh, et, List.cons_append]
    have hV := exV_itoa (X := dp - 1) (by omega) (by omega)
    obtain ⟨s1, s2, _⟩ := sg_read neg (c := c) (r := (if 2 ≤ (c :: r).length then 46 :: r else []) ++ 101 :: Lib.itoa (dp - 1)) hcd
    by_cases h2 : 2 ≤ (c :: r).length
    · rw [if_pos h2] at s1 s2 ⊢
      have rd := read_dot (A := [c]) (B := r) (r := 101 :: Lib.itoa (dp - 1)) (by simp [hcd]) hrd (by simp only [List.length_cons, List.length_nil] at hl ⊢; omega) (.inr ⟨_, rfl⟩) (body_dig hcd).1 (by rw [List.singleton_append]; omega)
      simp only [List.singleton_append] at rd
      rw [hV] at rd
      refine ⟨_, _, s1.trans rd, s2, np, by unfold qMax; omega, ?_⟩
      congr 2
      simp only [List.length_cons]
      omega
    · rw [if_neg h2] at s1 s2 ⊢
      have hr0 : r = [] := by
        simp only [List.length_cons] at h2
        exact List.length_eq_zero_iff.1 (by omega)
      subst hr0
      have rd := read_int (A := [c]) (r := 101 :: Lib.itoa (dp - 1)) (by simp [hcd]) (by simp) (.inr ⟨_, rfl⟩) (body_dig hcd).1 (by omega)
      rw [hV] at rd
      refine ⟨_, _, s1.trans rd, s2, np, by unfold qMax; omega, ?_⟩
      rfl
theorem ex_bounds {man r0 : Nat} {ex : Int} (hm : 0 < man) (hm2 : man ≤ qMax) (h : Near ((man : Rat) * (10 : Rat) ^ ex * (2 : Rat) ^ (1075 : Int)) r0) (hr0 : 0 < r0) (hr : r0 < 9218868437227405312) : -345 ≤ ex ∧ ex ≤ 310 := by
  have p1075 : (2 : Rat) ^ (1075 : Int) = ((2 ^ 1075 : Nat) : Rat) := (cast2 1075).symm
  constructor
  · refine Int.not_lt.1 fun hc => ?_
    have hlo := h.lo hr0
    have m0 : (1 : Rat) ≤ ((midR (r0 - 1) : Nat) : Rat) := by
      have : midR 0 = 1 := by decide
      rcases Nat.eq_zero_or_pos (r0 - 1) with e | e
      · rw [e, this]; decide
      · have := midR_mono e
        exact castle (show 1 ≤ midR (r0 - 1) by omega)
    obtain ⟨j, hj⟩ : ∃ j : Nat, (-346 : Int) = ex + j := ⟨(-346 - ex).toNat, by omega⟩
    have e1 : (10 : Rat) ^ ex ≤ (10 : Rat) ^ (-346 : Int) := by
      rw [hj, Rat.zpow_add r10, ← cast10]
      have := castle (show 1 ≤ 10 ^ j from Nat.one_le_pow _ _ (by decide))
      have t : ((1 : Nat) : Rat) = 1 := rfl
      rw [t] at this
      have := Rat.mul_le_mul_of_nonneg_left this (Rat.le_of_lt (p10 ex))
      grind
    have e2 : (10 : Rat) ^ (-346 : Int) * ((10 ^ 346 : Nat) : Rat) = 1 := by
      rw [cast10, ← Rat.zpow_add r10]
      rfl
    have e3 := castle hm2
    have e4 : qMax * 2 ^ 1075 < 10 ^ 346 := by decide +kernel
    have e5 := castlt e4
    rw [Rat.natCast_mul] at e5
    have hp := p10 (-346)
    rw [p1075] at hlo
    have hq : (0 : Rat) < ((2 ^ 1075 : Nat) : Rat) := Rat.natCast_pos.2 (Nat.two_pow_pos _)
    have f1 : (man : Rat) * (10 : Rat) ^ ex ≤ (qMax : Rat) * (10 : Rat) ^ (-346 : Int) := by
      have g1 := Rat.mul_le_mul_of_nonneg_left e1 (Rat.natCast_nonneg (a := man))
      have g2 := Rat.mul_le_mul_of_nonneg_right e3 (Rat.le_of_lt hp)
      exact Rat.le_trans g1 g2
    have f2 := Rat.mul_le_mul_of_nonneg_right f1 (Rat.le_of_lt hq)
    have f3 := Rat.mul_lt_mul_of_pos_right e5 hp
    generalize ((10 ^ 346 : Nat) : Rat) = a at *
    generalize ((2 ^ 1075 : Nat) : Rat) = b at *
    generalize (10 : Rat) ^ (-346 : Int) = x at *
    generalize (10 : Rat) ^ ex = y at *
    generalize ((midR (r0 - 1) : Nat) : Rat) = z at *
    generalize (man : Rat) = u at *
    generalize (qMax : Rat) = v at *
    clear h e4 e5 hm2 hj f1
    grind
  · refine Int.not_lt.1 fun hc => ?_
    have hhi := h.hi
    have m1 : midR r0 ≤ midR 9218868437227405311 := by
      rcases Nat.lt_or_ge r0 9218868437227405311 with e | e
      · exact Nat.le_of_lt (midR_mono e)
      · rw [show r0 = 9218868437227405311 by omega]; exact Nat.le_refl _
    have m2 : midR 9218868437227405311 < 10 ^ 311 * 2 ^ 1075 := by decide +kernel
    have m3 := castlt (Nat.lt_of_le_of_lt m1 m2)
    rw [Rat.natCast_mul] at m3
    obtain ⟨j, hj⟩ : ∃ j : Nat, ex = (311 : Nat) + j := ⟨(ex - 311).toNat, by omega⟩
    have e1 : ((10 ^ 311 : Nat) : Rat) ≤ (10 : Rat) ^ ex := by
      rw [hj, Rat.zpow_add r10, ← cast10, ← cast10, ← Rat.natCast_mul]
      refine castle ?_
      have := Nat.mul_le_mul_left (10 ^ 311) (show 1 ≤ 10 ^ j from Nat.one_le_pow _ _ (by decide))
      omega
    have e2 : (1 : Rat) ≤ (man : Rat) := castle hm
    have hq : (0 : Rat) < ((2 ^ 1075 : Nat) : Rat) := Rat.natCast_pos.2 (Nat.two_pow_pos _)
    rw [p1075] at hhi
    have f1 : 1 * (10 : Rat) ^ ex ≤ (man : Rat) * (10 : Rat) ^ ex := Rat.mul_le_mul_of_nonneg_right e2 (Rat.le_of_lt (p10 ex))
    have f2 : ((10 ^ 311 : Nat) : Rat) * ((2 ^ 1075 : Nat) : Rat) ≤ (man : Rat) * (10 : Rat) ^ ex * ((2 ^ 1075 : Nat) : Rat) := Rat.mul_le_mul_of_nonneg_right (by grind) (Rat.le_of_lt hq)
    generalize ((10 ^ 311 : Nat) : Rat) = a at *
    generalize ((2 ^ 1075 : Nat) : Rat) = b at *
    generalize (man : Rat) * (10 : Rat) ^ ex = y at *
    generalize ((midR r0 : Nat) : Rat) = z at *
    clear h m1 m2 f1 e1
    grind
/-- A FLOAT'S TEXT IS READ AS THE FLOAT. -/
theorem atof_flTx {T : Int → Nat × Nat} {F : Nat → Nat} (hT : TabPow T) (hF : TabTen F) {D : List UInt8} {dp : Int} (h : DigL D) (h1 : -1000 ≤ dp) (h2 : dp ≤ 1000) (neg : Bool) {r0 : Nat} (hr0 : 0 < r0) (hr : r0 < 9218868437227405312) (hn : Near ((numD D : Rat) * (10 : Rat) ^ (dp - D.length) * (2 : Rat) ^ (1075 : Int)) r0) : atof T F (flTx neg D dp) = (sgn neg + r0, false) := by
  obtain ⟨man, ex, e1, e2, m0, m1, e3⟩ := read_flTx h h1 h2 neg
  rw [← e3] at hn
  obtain ⟨b1, b2⟩ := ex_bounds m0 m1 hn hr0 hr
  unfold atof
  simp only
  rw [e1, e2]
  simp only
  rw [if_neg (by omega), if_neg (by omega), if_neg (by omega)]
  simp only [Bool.false_eq_true, if_false]
  cases hx : exact64 F man ex neg with
  | some f =>
    simp only
    rw [exact_near hF m0 hn hr neg hx]
  | none =>
    simp only
    exact par64_near hT m0 m1 (by omega) (by omega) hn hr0 hr neg
theorem atof_zero (T : Int → Nat × Nat) (F : Nat → Nat) (neg : Bool) : atof T F (flTx neg [] 0) = (sgn neg, false) := by
  have e : flTx neg [] 0 = sgT neg ++ [48] := by cases neg <;> decide
  rw [e]
  cases neg <;> rfl
end PF
/- A float printed and read again is the float. Conditions: the tables of powers. -/
namespace PF
open Go Go.Proofs.YtagiddbfhlokcaaGreatDoor
/-- The mantissa of a float, its exponent (in units of '2 ^ -1074'), and how far it is shifted. -/
def fMan (r : Nat) : Nat := if r / 4503599627370496 = 0 then r % 4503599627370496 else r % 4503599627370496 + 4503599627370496
def fExp (r : Nat) : Nat := r / 4503599627370496 - 1
def fSh (r : Nat) : Nat := 63 - (fMan r).log2
def fShort (T : Int → Nat × Nat) (r : Nat) : Nat × Int := Ff.shortF T (fMan r * 2 ^ fSh r) ((fExp r : Int) - 1074 - fSh r)
/-- A float's digits, and the place of the point. -/
def fDec (T : Int → Nat × Nat) (x : Nat) : List UInt8 × Int :=
  let r := x % 9223372036854775808
  if r = 0 then ([], 0) else (trim48 (Lib.decDigits (fShort T r).1), (Lib.nDigits (fShort T r).1 : Int) + (fShort T r).2)
theorem f_norm {r : Nat} (h0 : 0 < r) (h : r < 9218868437227405312) : Norm (fExp r) (fMan r) (fSh r) ∧ r = fExp r * 4503599627370496 + fMan r := by
  have hn : 0 < fMan r ∧ fMan r < 9007199254740992 ∧ (fExp r = 0 ∨ 4503599627370496 ≤ fMan r) ∧ fExp r ≤ 2045 ∧ r = fExp r * 4503599627370496 + fMan r := by
    unfold fMan fExp
    split <;> omega
  obtain ⟨n0, n1, hk, k1, hr⟩ := hn
  refine ⟨⟨hk, n0, n1, k1, ?_, ?_⟩, hr⟩
  · have l1 : 2 ^ (fMan r).log2 ≤ fMan r := Nat.log2_self_le (by omega)
    have l2 : (fMan r).log2 < 53 := (Nat.log2_lt (by omega)).2 (by omega)
    unfold fSh
    calc 9223372036854775808 = 2 ^ (fMan r).log2 * 2 ^ (63 - (fMan r).log2) := by rw [← Nat.pow_add, show (fMan r).log2 + (63 - (fMan r).log2) = 63 by omega]
      _ ≤ fMan r * 2 ^ (63 - (fMan r).log2) := Nat.mul_le_mul_right _ l1
  · have l1 : fMan r < 2 ^ ((fMan r).log2 + 1) := Nat.lt_log2_self
    have l2 : (fMan r).log2 < 53 := (Nat.log2_lt (by omega)).2 (by omega)
    unfold fSh
    calc fMan r * 2 ^ (63 - (fMan r).log2) < 2 ^ ((fMan r).log2 + 1) * 2 ^ (63 - (fMan r).log2) := (Nat.mul_lt_mul_right (Nat.two_pow_pos _)).2 l1
      _ = 18446744073709551616 := by rw [← Nat.pow_add, show (fMan r).log2 + 1 + (63 - (fMan r).log2) = 64 by omega]
theorem digs_le {c : UInt8} {r : List UInt8} (h : (c :: r).all isDig = true) (hc : c ≠ 48) : 10 ^ r.length ≤ numD (c :: r) := by
  simp only [List.all_cons, Bool.and_eq_true] at h
  have h1 := h.1
  unfold isDig at h1
  rw [Bool.and_eq_true, decide_eq_true_eq, decide_eq_true_eq] at h1
  have h2 : c.toNat ≠ 48 := fun e => hc (UInt8.toNat_inj.1 e)
  rw [numD_cons]
  have : 1 * 10 ^ r.length ≤ (c.toNat - 48) * 10 ^ r.length := Nat.mul_le_mul_right _ (by omega)
  omega
theorem len17 {c : UInt8} {r : List UInt8} (h : (c :: r).all isDig = true) (hc : c ≠ 48) (hl : numD (c :: r) < 100000000000000000) : (c :: r).length ≤ 17 := by
  have := digs_le h hc
  rw [List.length_cons]
  refine Nat.le_of_not_lt fun h17 => ?_
  have : 10 ^ 17 ≤ 10 ^ r.length := Nat.pow_le_pow_right (by decide) (by omega)
  omega
theorem nDigits17 {u : Nat} (h0 : 0 < u) (h : u < 100000000000000000) : Lib.nDigits u ≤ 17 := by
  obtain ⟨c, r, e, hc⟩ := dec_head h0
  obtain ⟨a, b⟩ := dec_num u
  rw [← Lib.decDigits_length]
  rw [e] at a b ⊢
  exact len17 b hc (by omega)
/-- The digits are those of the float. -/
theorem fDec_spec {T : Int → Nat × Nat} (hT : TabPow T) {r : Nat} (h0 : 0 < r) (h : r < 9218868437227405312) : DigL (fDec T r).1 ∧ -1000 ≤ (fDec T r).2 ∧ (fDec T r).2 ≤ 1000 ∧ Near ((numD (fDec T r).1 : Rat) * (10 : Rat) ^ ((fDec T r).2 - ((fDec T r).1.length : Nat)) * (2 : Rat) ^ (1075 : Int)) r := by
  obtain ⟨hN, hr⟩ := f_norm h0 h
  obtain ⟨R, hR, n1, d0, d1, b1, b2⟩ := short_near hT hN
  rw [← hr] at n1
  have hR2 : fShort T r = R := hR
  obtain ⟨z, t1, t2, t3, c, t, t4, t5⟩ := trim_dec d0
  have hmod : r % 9223372036854775808 = r := Nat.mod_eq_of_lt (by omega)
  have e : fDec T r = (trim48 (Lib.decDigits R.1), (Lib.nDigits R.1 : Int) + R.2) := by
    unfold fDec
    simp only
    rw [hmod, if_neg (by omega), hR2]
  rw [e]
  simp only
  obtain ⟨D, hD⟩ : ∃ D, trim48 (Lib.decDigits R.1) = D := ⟨_, rfl⟩
  rw [hD] at t1 t2 t3 t4 ⊢
  have hnd := nDigits17 d0 d1
  have hlt : numD D < 100000000000000000 := by
    have := Nat.mul_le_mul_left (numD D) (show 1 ≤ 10 ^ z from Nat.one_le_pow _ _ (by decide))
    omega
  refine ⟨⟨t3, ⟨c, t, t4, t5⟩, by rw [t4] at t3 hlt ⊢; exact len17 t3 t5 hlt⟩, by omega, by omega, ?_⟩
  have e3 : (numD D : Rat) * (10 : Rat) ^ ((Lib.nDigits R.1 : Int) + R.2 - (D.length : Nat)) = (R.1 : Rat) * (10 : Rat) ^ R.2 := by
    rw [show (Lib.nDigits R.1 : Int) + R.2 - (D.length : Nat) = (z : Int) + R.2 by omega, ← t2, Rat.natCast_mul, cast10, Rat.zpow_add r10, Rat.mul_assoc]
  rw [e3]
  exact n1
/-- The text of a float's bits. -/
def flText (T : Int → Nat × Nat) (x : Nat) : List UInt8 := flTx (decide (9223372036854775808 ≤ x)) (fDec T (x % 9223372036854775808)).1 (fDec T (x % 9223372036854775808)).2
/-- PRINTED AND READ AGAIN. -/
theorem float_back {T : Int → Nat × Nat} {F : Nat → Nat} (hT : TabPow T) (hF : TabTen F) {x : Nat} (hx : x < 18446744073709551616) (hfin : Fin x) : atof T F (flText T x) = (x, false) := by
  unfold Fin at hfin
  have hs : sgn (decide (9223372036854775808 ≤ x)) + x % 9223372036854775808 = x := by
    by_cases h : 9223372036854775808 ≤ x
    · rw [decide_eq_true h]; show 9223372036854775808 + _ = _; omega
    · rw [decide_eq_false h]; show 0 + _ = _; omega
  unfold flText
  rcases Nat.eq_zero_or_pos (x % 9223372036854775808) with h0 | h0
  · rw [h0] at hs ⊢
    have e : fDec T 0 = ([], 0) := rfl
    rw [e, atof_zero]
    rw [Nat.add_zero] at hs
    rw [hs]
  · obtain ⟨a, b, c, d⟩ := fDec_spec hT h0 hfin
    rw [atof_flTx hT hF a b c _ h0 hfin d, hs]
end PF
/- A float's text, part by part, in plain Lean. No condition. -/
namespace PF
open Go
theorem atoi_key : ∀ n : _root_.Fin 1000, Lib.atoi (45 :: expT n.val) = some (-(n.val : Int)) ∧ Lib.atoi (43 :: expT n.val) = some (n.val : Int) := by decide +kernel
/-- The exponent is read as it was. -/
theorem atoi_exp {X : Int} (h1 : -999 ≤ X) (h2 : X ≤ 999) : Lib.atoi ((if X < 0 then 45 else 43) :: expT X.natAbs) = some X := by
  have := atoi_key ⟨X.natAbs, by omega⟩
  simp only at this
  by_cases h : X < 0
  · rw [if_pos h, this.1]
    congr 1
    omega
  · rw [if_neg h, this.2]
    congr 1
    omega
theorem exp_len (x : Nat) : (expT x).length ≤ 3 ∧ 2 ≤ (expT x).length := by
  unfold expT
  split
  · simp
  · split <;> simp
/-- A sign, digits, a dot. -/
def isNum (c : UInt8) : Bool := isDig c || decide (c = 45) || decide (c = 46)
theorem isDig_num {c : UInt8} (h : isDig c = true) : isNum c = true := by unfold isNum; rw [h]; rfl
theorem fmtM_num (neg : Bool) {D : List UInt8} (hD : D.all isDig = true) : (fmtM neg D).all isNum = true := by
  have hn : ∀ l : List UInt8, l.all isDig = true → l.all isNum = true := fun l h => List.all_eq_true.2 fun x hx => isDig_num (List.all_eq_true.1 h x hx)
  unfold fmtM
  rw [List.all_append, List.all_cons, Bool.and_eq_true, Bool.and_eq_true]
  refine ⟨by cases neg <;> decide, ?_, ?_⟩
  · cases D with
    | nil => decide
    | cons c r =>
      simp only [List.all_cons, Bool.and_eq_true] at hD
      exact isDig_num hD.1
  · split
    · rw [List.all_cons, Bool.and_eq_true]
      refine ⟨by decide, hn _ ?_⟩
      cases D with
      | nil => rfl
      | cons c r =>
        simp only [List.all_cons, Bool.and_eq_true] at hD
        exact hD.2
    · rfl
theorem index_e : ∀ (a r : List UInt8), a.all isNum = true → Lib.indexByte (a ++ 101 :: r) 101 = (a.length : Int)
  | [], r, _ => by simp [Lib.indexByte]
  | c :: a, r, h => by
    simp only [List.all_cons, Bool.and_eq_true] at h
    have ih := index_e a r h.2
    have hc : (c == 101) = false := by
      rw [beq_eq_false_iff_ne]
      rintro rfl
      exact absurd h.1 (by decide)
    rw [List.cons_append]
    unfold Lib.indexByte
    rw [hc, ih]
    rw [if_neg (by decide), if_neg (by rw [beq_iff_eq]; omega), List.length_cons]
    omega
theorem fmtM_len (neg : Bool) (D : List UInt8) : 1 ≤ (fmtM neg D).length ∧ (fmtM neg D).length ≤ D.length + 3 := by
  unfold fmtM
  have : (sgT neg).length ≤ 1 := by cases neg <;> decide
  rw [List.length_append, List.length_cons]
  split
  · rw [List.length_cons, List.length_tail]; omega
  · rw [List.length_nil]; omega
theorem itoa_len {X : Int} (h1 : -999 ≤ X) (h2 : X ≤ 999) : (Lib.itoa X).length ≤ 4 ∧ 1 ≤ (Lib.itoa X).length := by
  have key : ∀ u : Nat, u < 1000 → Lib.nDigits u ≤ 3 ∧ 1 ≤ Lib.nDigits u := by
    intro u hu
    refine ⟨?_, Lib.nDigits_pos u⟩
    rcases Nat.eq_zero_or_pos u with h | h
    · subst h; rw [Lib.nDigits_small (by omega)]; omega
    · obtain ⟨c, r, e, hc⟩ := dec_head h
      obtain ⟨a, b⟩ := dec_num u
      rw [← Lib.decDigits_length]
      rw [e] at a b ⊢
      have := digs_le b hc
      rw [List.length_cons]
      refine Nat.le_of_not_lt fun h3 => ?_
      have : 10 ^ 3 ≤ 10 ^ r.length := Nat.pow_le_pow_right (by decide) (by omega)
      omega
  unfold Lib.itoa
  split
  · rw [List.length_cons, Lib.decDigits_length]
    have := key X.natAbs (by omega)
    omega
  · rw [Lib.decDigits_length]
    have := key X.toNat (by omega)
    omega
theorem fmtF_len (neg : Bool) {D : List UInt8} {dp : Int} (hD : D.length ≤ 17) (h1 : -4 ≤ fX D dp) (h2 : fX D dp ≤ 15) (h0 : D = [] → dp = 0) : 1 ≤ (fmtF neg D dp).length ∧ (fmtF neg D dp).length ≤ 40 := by
  have hs : (sgT neg).length ≤ 1 := by cases neg <;> decide
  have hdp : -3 ≤ dp ∧ dp ≤ 16 := by
    unfold fX at h1 h2
    split at h1
    · rename_i h; have := h0 h; omega
    · rename_i h; rw [if_neg h] at h2; omega
  unfold fmtF
  rw [List.length_append, List.length_append]
  have a : 1 ≤ (if 0 < dp then D.take dp.toNat ++ List.replicate (dp.toNat - D.length) 48 else [48]).length ∧ (if 0 < dp then D.take dp.toNat ++ List.replicate (dp.toNat - D.length) 48 else [48]).length ≤ 17 := by
    split
    · rw [List.length_append, List.length_take, List.length_replicate]; omega
    · simp
  have b : (if dp < D.length then 46 :: (List.replicate (-dp).toNat 48 ++ D.drop dp.toNat) else []).length ≤ 21 := by
    split
    · rw [List.length_cons, List.length_append, List.length_replicate, List.length_drop]; omega
    · simp
  omega
theorem flTx_len (neg : Bool) {D : List UInt8} {dp : Int} (hD : D.length ≤ 17) (h1 : -900 ≤ dp) (h2 : dp ≤ 900) (h0 : D = [] → dp = 0) : 1 ≤ (flTx neg D dp).length ∧ (flTx neg D dp).length ≤ 40 := by
  unfold flTx
  have hX : -999 ≤ fX D dp ∧ fX D dp ≤ 999 := by unfold fX; split <;> omega
  split
  · rename_i h
    exact fmtF_len neg hD h.1 h.2 h0
  · rw [List.length_append, List.length_cons]
    have := fmtM_len neg D
    have := itoa_len hX.1 hX.2
    omega
/-- The digits of any float. -/
theorem fDec_any {T : Int → Nat × Nat} (hT : TabPow T) {r : Nat} (h : r < 9218868437227405312) : (fDec T r).1.all isDig = true ∧ (fDec T r).1.length ≤ 17 ∧ -900 ≤ (fDec T r).2 ∧ (fDec T r).2 ≤ 900 ∧ ((fDec T r).1 = [] → (fDec T r).2 = 0) ∧ (r = 0 ∧ (fDec T r).1 = [] ∨ 0 < r ∧ ∃ c t, (fDec T r).1 = c :: t ∧ c ≠ 48) := by
  rcases Nat.eq_zero_or_pos r with h0 | h0
  · subst h0
    have e : fDec T 0 = ([], 0) := rfl
    rw [e]
    exact ⟨rfl, by decide, by decide, by decide, fun _ => rfl, .inl ⟨rfl, rfl⟩⟩
  · obtain ⟨hN, hr⟩ := f_norm h0 h
    obtain ⟨R, hR, n1, d0, d1, b1, b2⟩ := short_near hT hN
    obtain ⟨a, b, c, d⟩ := fDec_spec hT h0 h
    have hnd := nDigits17 d0 d1
    have hmod : r % 9223372036854775808 = r := Nat.mod_eq_of_lt (by omega)
    have e : (fDec T r).2 = (Lib.nDigits R.1 : Int) + R.2 := by
      unfold fDec
      simp only
      rw [hmod, if_neg (by omega)]
      unfold fShort
      rw [hR]
    obtain ⟨c0, t, e0, hc⟩ := a.head
    exact ⟨a.all, a.len, by omega, by omega, (fun h => by rw [h] at e0; cases e0), .inr ⟨h0, c0, t, e0, hc⟩⟩
end PF
/- The reference's way to a float's text is the same text. No condition. -/
namespace PF
open Go
/-- The digits as they stand in a text: a nought if there are none. -/
def gD (D : List UInt8) : List UInt8 := if D = [] then [48] else D
def gM (G : List UInt8) : List UInt8 := G.headD 48 :: (if 2 ≤ G.length then 46 :: G.tail else [])
/-- The text by the reference's cases. -/
def gTx (neg : Bool) (G : List UInt8) (X : Int) : List UInt8 :=
  if X < -4 ∨ 15 < X then sgT neg ++ (gM G ++ 101 :: Lib.itoa X)
  else if X < 0 then sgT neg ++ (48 :: 46 :: (List.replicate (-X - 1).toNat 48 ++ G))
  else if (G.length : Int) ≤ X + 1 then sgT neg ++ (G ++ List.replicate (X + 1 - G.length).toNat 48)
  else sgT neg ++ (G.take (X + 1).toNat ++ 46 :: G.drop (X + 1).toNat)
theorem fmtM_g (neg : Bool) (D : List UInt8) : fmtM neg D = sgT neg ++ gM (gD D) := by
  unfold fmtM gM gD
  by_cases h : D = []
  · subst h; rfl
  · rw [if_neg h]
theorem flTx_g (neg : Bool) {D : List UInt8} {dp : Int} (h0 : D = [] → dp = 0) : flTx neg D dp = gTx neg (gD D) (fX D dp) := by
  unfold flTx gTx
  by_cases hD : D = []
  · have := h0 hD
    subst hD
    subst this
    cases neg <;> decide
  · have hX : fX D dp = dp - 1 := by unfold fX; rw [if_neg hD]
    have hG : gD D = D := by unfold gD; rw [if_neg hD]
    have hl : 1 ≤ D.length := by
      cases D with
      | nil => exact absurd rfl hD
      | cons c r => simp
    rw [fmtM_g, hX, hG]
    by_cases h1 : -4 ≤ dp - 1 ∧ dp - 1 ≤ 15
    · rw [if_pos h1, if_neg (by omega)]
      unfold fmtF
      by_cases h2 : dp - 1 < 0
      · rw [if_pos h2, if_neg (by omega), if_pos (by omega)]
        rw [show dp.toNat = 0 by omega, List.drop_zero, show (-(dp - 1) - 1).toNat = (-dp).toNat by omega]
        rfl
      · rw [if_neg h2, if_pos (by omega)]
        by_cases h3 : (D.length : Int) ≤ dp - 1 + 1
        · rw [if_pos h3, if_neg (by omega), List.append_nil, List.take_of_length_le (by omega), show (dp - 1 + 1 - D.length).toNat = dp.toNat - D.length by omega]
        · rw [if_neg h3, if_pos (by omega), show dp.toNat - D.length = 0 by omega, show (-dp).toNat = 0 by omega, show (dp - 1 + 1).toNat = dp.toNat by omega]
          simp
    · rw [if_neg h1, if_pos (by omega), List.append_assoc]
end PF
/- A value's text, in plain Lean. No condition. -/
namespace PF
open Go
/-- A byte of a quoted text. -/
def q1 (c : UInt8) : List UInt8 := if c = 34 then [92, 34] else if c = 92 then [92, 92] else if c = 10 then [92, 110] else [c]
def quo (l : List UInt8) : List UInt8 := l.flatMap q1
def quoted (l : List UInt8) : List UInt8 := 34 :: (quo l ++ [34])
theorem quo_snoc {l : List UInt8} {k : Nat} (h : k < l.length) : quo (l.take (k + 1)) = quo (l.take k) ++ q1 (l.getD k 0) := by
  unfold quo
  rw [List.take_add_one, List.getElem?_eq_getElem h, List.flatMap_append, List.getD_eq_getElem?_getD, List.getElem?_eq_getElem h]
  simp
theorem q1_len (c : UInt8) : 1 ≤ (q1 c).length ∧ (q1 c).length ≤ 2 := by
  unfold q1
  split
  · simp
  · split
    · simp
    · split <;> simp
theorem quo_len (l : List UInt8) : (quo l).length ≤ 2 * l.length := by
  unfold quo
  induction l with
  | nil => simp
  | cons c r ih =>
    rw [List.flatMap_cons, List.length_append, List.length_cons]
    have := q1_len c
    omega
end PF
