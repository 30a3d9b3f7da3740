/- Several texts of this proof, laid together. Conditions: as each says. -/
import Derived.Test.YtagiddbfhlokcaaGreatDoorMAG
import Derived.Lib.ItoaNum
import Derived.Test.YtagiddbfhlokcaaGreatDoorMAF
import Derived.Test.YtagiddbfhlokcaaGreatDoorMAA
/- A float's text, in plain Lean, and what readFloat makes of it. No condition. -/
namespace PF
open Go
def trim48 (l : List UInt8) : List UInt8 := (l.reverse.dropWhile (· == 48)).reverse
def sgT (neg : Bool) : List UInt8 := if neg then [45] else []
/-- An exponent's digits: two at least. -/
def expT (x : Nat) : List UInt8 := if x < 10 then [48, UInt8.ofNat (48 + x)] else if x < 100 then [UInt8.ofNat (48 + x / 10), UInt8.ofNat (48 + x % 10)] else [UInt8.ofNat (48 + x / 100), UInt8.ofNat (48 + x / 10 % 10), UInt8.ofNat (48 + x % 10)]
def fX (D : List UInt8) (dp : Int) : Int := if D = [] then 0 else dp - 1
def fmtM (neg : Bool) (D : List UInt8) : List UInt8 := sgT neg ++ D.headD 48 :: (if 2 ≤ D.length then 46 :: D.tail else [])
/-- FormatFloat(x, 'e', -1, 64). -/
def fmtE (neg : Bool) (D : List UInt8) (dp : Int) : List UInt8 := fmtM neg D ++ 101 :: (if fX D dp < 0 then 45 else 43) :: expT (fX D dp).natAbs
/-- FormatFloat(x, 'f', -1, 64). -/
def fmtF (neg : Bool) (D : List UInt8) (dp : Int) : List UInt8 :=
  sgT neg ++ ((if 0 < dp then D.take dp.toNat ++ List.replicate (dp.toNat - D.length) 48 else [48]) ++ (if dp < D.length then 46 :: (List.replicate (-dp).toNat 48 ++ D.drop dp.toNat) else []))
/-- A float's text as the value has it. -/
def flTx (neg : Bool) (D : List UInt8) (dp : Int) : List UInt8 := if -4 ≤ fX D dp ∧ fX D dp ≤ 15 then fmtF neg D dp else fmtM neg D ++ 101 :: Lib.itoa (fX D dp)
theorem isDig_ofNat {x : Nat} (h : x < 10) : isDig (UInt8.ofNat (48 + x)) = true ∧ (UInt8.ofNat (48 + x)).toNat = 48 + x := by
  have e : (UInt8.ofNat (48 + x)).toNat = 48 + x := by rw [UInt8.toNat_ofNat']; omega
  refine ⟨?_, e⟩
  unfold isDig
  rw [e, decide_eq_true (by omega), decide_eq_true (by omega)]
  rfl
theorem dec_num (u : Nat) : numD (Lib.decDigits u) = u ∧ (Lib.decDigits u).all isDig = true := by
  induction u using Nat.strongRecOn with
  | _ u ih =>
    by_cases h : u < 10
    · have e := isDig_ofNat h
      rw [Lib.decDigits, dif_pos h]
      constructor
      · show 0 * 10 + ((UInt8.ofNat (48 + u)).toNat - 48) = u
        rw [e.2]; omega
      · rw [List.all_cons, e.1]; rfl
    · obtain ⟨a, b⟩ := ih (u / 10) (by omega)
      have e := isDig_ofNat (show u % 10 < 10 by omega)
      rw [Lib.decDigits, dif_neg h]
      constructor
      · rw [numD_snoc, a, e.2]; omega
      · rw [List.all_append, b, List.all_cons, e.1]; rfl
theorem dec_head {u : Nat} (h : 0 < u) : ∃ c r, Lib.decDigits u = c :: r ∧ c ≠ 48 := by
  induction u using Nat.strongRecOn with
  | _ u ih =>
    by_cases h10 : u < 10
    · rw [Lib.decDigits, dif_pos h10]
      refine ⟨_, _, rfl, fun e => ?_⟩
      have := (isDig_ofNat h10).2
      rw [e] at this
      have : (48 : UInt8).toNat = 48 := rfl
      omega
    · obtain ⟨c, r, e, hc⟩ := ih (u / 10) (by omega) (by omega)
      rw [Lib.decDigits, dif_neg h10, e]
      exact ⟨c, _, rfl, hc⟩
theorem numD_append (a b : List UInt8) : numD (a ++ b) = numD a * 10 ^ b.length + numD b := by
  unfold numD
  rw [List.foldl_append, numD_foldl b]
  rfl
theorem numD_zeros (z : Nat) : numD (List.replicate z 48) = 0 := by
  induction z with
  | zero => rfl
  | succ z ih => rw [List.replicate_succ', numD_append, ih]; rfl
theorem numD_cons (c : UInt8) (b : List UInt8) : numD (c :: b) = (c.toNat - 48) * 10 ^ b.length + numD b := by
  have := numD_append [c] b
  rw [List.singleton_append] at this
  rw [this]
  congr 2
  show 0 * 10 + _ = _
  omega
theorem take48 : ∀ (l : List UInt8) (b : UInt8), b ∈ l.takeWhile (· == 48) → b = 48
  | [], b, h => by cases h
  | c :: l, b, h => by
    rw [List.takeWhile_cons] at h
    by_cases hc : (c == 48) = true
    · rw [if_pos hc] at h
      rcases List.mem_cons.1 h with e | e
      · rw [e]; simpa using hc
      · exact take48 l b e
    · rw [if_neg hc] at h; cases h
theorem trim48_spec (l : List UInt8) : ∃ z, l = trim48 l ++ List.replicate z 48 := by
  refine ⟨(l.reverse.takeWhile (· == 48)).length, ?_⟩
  have h := List.takeWhile_append_dropWhile (p := (· == (48 : UInt8))) (l := l.reverse)
  have e : l.reverse.takeWhile (· == 48) = List.replicate (l.reverse.takeWhile (· == 48)).length 48 := by
    rw [List.eq_replicate_iff]
    refine ⟨rfl, fun b hb => ?_⟩
    have := take48 _ _ hb
    exact this
  have h2 := congrArg List.reverse h
  rw [List.reverse_append, List.reverse_reverse] at h2
  unfold trim48
  rw [e] at h2
  rw [List.reverse_replicate] at h2
  exact h2.symm
/-- The digits of a number, without the noughts at their end. -/
theorem trim_dec {u : Nat} (h : 0 < u) : ∃ z, (trim48 (Lib.decDigits u)).length + z = Lib.nDigits u ∧ numD (trim48 (Lib.decDigits u)) * 10 ^ z = u ∧ (trim48 (Lib.decDigits u)).all isDig = true ∧ ∃ c r, trim48 (Lib.decDigits u) = c :: r ∧ c ≠ 48 := by
  obtain ⟨z, hz⟩ := trim48_spec (Lib.decDigits u)
  obtain ⟨D, hD⟩ : ∃ D, trim48 (Lib.decDigits u) = D := ⟨_, rfl⟩
  rw [hD] at hz ⊢
  obtain ⟨a, b⟩ := dec_num u
  refine ⟨z, ?_, ?_, ?_, ?_⟩
  · rw [← Lib.decDigits_length, hz]; simp
  · rw [hz, numD_append, numD_zeros, List.length_replicate, Nat.add_zero] at a
    exact a
  · rw [hz, List.all_append, Bool.and_eq_true] at b
    exact b.1
  · obtain ⟨c, r, e, hc⟩ := dec_head h
    cases hDc : D with
    | nil =>
      rw [hz, hDc, List.nil_append] at e
      cases z with
      | zero => cases e
      | succ z =>
        rw [List.replicate_succ] at e
        injection e with e1 _
        exact absurd e1.symm hc
    | cons d t =>
      rw [hz, hDc, List.cons_append] at e
      injection e with e1 _
      exact ⟨d, t, rfl, e1 ▸ hc⟩
/-! ### The loop of readFloat over digits -/
/-- The state of the loop, as far as it is wanted. -/
structure Good (st : RF) : Prop where
  nm : st.nm = st.ds.length
  z : st.nm = 0 → st.man = 0
  tr : st.tr = false
theorem run_digits : ∀ (L : List UInt8) (r : List UInt8) (st : RF), L.all isDig = true → st.nm + L.length ≤ 19 → Good st →
    ∃ st', RF.run (L ++ r) st = RF.run r st' ∧ Good st' ∧ st'.man = st.man * 10 ^ L.length + numD L ∧ st'.nm ≤ st.nm + L.length ∧ st'.dp - st'.nm = st.dp - st.nm - L.length ∧ st'.dot = st.dot
  | [], r, st, _, _, hg => ⟨st, rfl, hg, by simp [numD], by simp, by simp, rfl⟩
  | c :: L, r, st, hl, hn, hg => by
    simp only [List.all_cons, Bool.and_eq_true] at hl
    rw [List.length_cons] at hn
    have h46 : ¬ c = 46 := by
      rintro rfl
      have := hl.1
      revert this
      decide
    by_cases hz : c = 48 ∧ st.nd = 0
    · have hs : st.step c = some { st with saw := true, dp := st.dp - 1 } := by
        unfold RF.step
        rw [if_neg h46, if_pos hl.1, if_pos hz]
      have hnm0 : st.nm = 0 := by rw [hg.nm]; exact hz.2
      obtain ⟨st', e1, e2, e3, e4, e5, e6⟩ := run_digits L r { st with saw := true, dp := st.dp - 1 } hl.2 (by simp only; omega) ⟨hg.nm, hg.z, hg.tr⟩
      refine ⟨st', ?_, e2, ?_, ?_, ?_, e6⟩
      · rw [List.cons_append, RF.run_some hs]; exact e1
      · rw [e3, numD_cons]
        simp only
        rw [hg.z hnm0, hz.1]
        simp
      · simp only at e4; rw [List.length_cons]; omega
      · simp only at e5; rw [List.length_cons]; omega
    · have hs : st.step c = some { st with saw := true, ds := st.ds ++ [c.toNat - 48], man := st.man * 10 + (c.toNat - 48), nm := st.nm + 1 } := by
        unfold RF.step
        rw [if_neg h46, if_pos hl.1, if_neg hz, if_pos (by omega)]
      obtain ⟨st', e1, e2, e3, e4, e5, e6⟩ := run_digits L r { st with saw := true, ds := st.ds ++ [c.toNat - 48], man := st.man * 10 + (c.toNat - 48), nm := st.nm + 1 } hl.2 (by simp only; omega) ⟨by simp only [List.length_append, List.length_singleton]; rw [hg.nm], fun h => by simp only at h; omega, hg.tr⟩
      refine ⟨st', ?_, e2, ?_, ?_, ?_, e6⟩
      · rw [List.cons_append, RF.run_some hs]; exact e1
      · rw [e3, numD_cons]
        simp only
        rw [List.length_cons, Nat.pow_succ, Nat.add_mul, Nat.mul_assoc, Nat.mul_comm 10, Nat.add_assoc]
      · simp only at e4; rw [List.length_cons]; omega
      · simp only at e5; rw [List.length_cons]; omega
theorem run_zeros : ∀ (z : Nat) (r : List UInt8) (st : RF), Good st → st.nm = 0 → ∃ st', RF.run (List.replicate z 48 ++ r) st = RF.run r st' ∧ Good st' ∧ st'.nm = 0 ∧ st'.dp = st.dp - z ∧ st'.dot = st.dot
  | 0, r, st, hg, h0 => ⟨st, rfl, hg, h0, by simp, rfl⟩
  | z + 1, r, st, hg, h0 => by
    have hs : st.step 48 = some { st with saw := true, dp := st.dp - 1 } := by
      unfold RF.step
      rw [if_neg (by decide), if_pos (by decide), if_pos ⟨rfl, by unfold RF.nd; rw [← hg.nm]; exact h0⟩]
    obtain ⟨st', e1, e2, e3, e4, e5⟩ := run_zeros z r { st with saw := true, dp := st.dp - 1 } ⟨hg.nm, hg.z, hg.tr⟩ h0
    refine ⟨st', ?_, e2, e3, ?_, e5⟩
    · rw [List.replicate_succ, List.cons_append, RF.run_some hs]; exact e1
    · rw [e4]; simp only; omega
theorem run_dot {r : List UInt8} {st : RF} (hg : Good st) (hd : st.dot = false) : ∃ st', RF.run (46 :: r) st = RF.run r st' ∧ Good st' ∧ st'.man = st.man ∧ st'.nm = st.nm ∧ st'.dp = st.nm ∧ st'.dot = true := by
  have hs : st.step 46 = some { st with dot := true, dp := st.nd } := by
    unfold RF.step
    rw [if_pos rfl, hd]
    rfl
  refine ⟨{ st with dot := true, dp := st.nd }, RF.run_some hs, ⟨hg.nm, hg.z, hg.tr⟩, rfl, rfl, ?_, rfl⟩
  show ((st.nd : Nat) : Int) = _
  unfold RF.nd
  rw [hg.nm]
/-- What ends the loop: nothing, or an e. -/
def Stop (r : List UInt8) : Prop := r = [] ∨ ∃ t, r = 101 :: t
theorem run_stop {r : List UInt8} (h : Stop r) (st : RF) : RF.run r st = (st, r) := by
  rcases h with rfl | ⟨t, rfl⟩
  · rfl
  · refine RF.run_none ?_
    unfold RF.step
    rw [if_neg (by decide), if_neg (by decide)]
theorem good0 : Good rf0 := ⟨rfl, fun _ => rfl, rfl⟩
/-- A text without a dot. -/
theorem read_int {A r : List UInt8} (hA : A.all isDig = true) (hl : A.length ≤ 19) (hr : Stop r) (hb : body (A ++ r) = A ++ r) (hm : numD A ≠ 0) : readF (A ++ r) = (numD A, exV r, false) := by
  obtain ⟨st, e1, e2, e3, e4, e5, e6⟩ := run_digits A r rf0 hA (by simp [rf0]; omega) good0
  have e3' : st.man = numD A := by rw [e3]; simp [rf0]
  unfold readF
  rw [hb, e1, run_stop hr]
  simp only
  rw [e3', e2.tr, if_neg hm, e6]
  have : ((st.nd : Nat) : Int) = st.nm := by unfold RF.nd; rw [e2.nm]
  rw [this]
  simp only [rf0, Bool.false_eq_true, if_false]
  congr 2
  omega
/-- A text with a dot. -/
theorem read_dot {A B r : List UInt8} (hA : A.all isDig = true) (hB : B.all isDig = true) (hl : A.length + B.length ≤ 19) (hr : Stop r) (hb : body (A ++ 46 :: (B ++ r)) = A ++ 46 :: (B ++ r)) (hm : numD (A ++ B) ≠ 0) : readF (A ++ 46 :: (B ++ r)) = (numD (A ++ B), exV r - B.length, false) := by
  obtain ⟨st, e1, e2, e3, e4, e5, e6⟩ := run_digits A (46 :: (B ++ r)) rf0 hA (by simp [rf0]; omega) good0
  obtain ⟨su, f1, f2, f3, f4, f5, f6⟩ := run_dot (r := B ++ r) e2 (by rw [e6]; rfl)
  have hnm : st.nm ≤ A.length := by simpa [rf0] using e4
  obtain ⟨sv, g1, g2, g3, g4, g5, g6⟩ := run_digits B r su hB (by rw [f4]; omega) f2
  have hman : sv.man = numD (A ++ B) := by rw [g3, f3, e3, numD_append]; simp [rf0]
  unfold readF
  rw [hb, e1, f1, g1, run_stop hr]
  simp only
  rw [hman, g2.tr, if_neg hm, g6, f6, if_pos rfl]
  congr 2
  omega
/-- The same where a nought and noughts behind the dot stand ahead. -/
theorem read_small {D r : List UInt8} {z : Nat} (hD : D.all isDig = true) (hl : D.length ≤ 19) (hr : Stop r) (hm : numD D ≠ 0) : readF (48 :: 46 :: (List.replicate z 48 ++ (D ++ r))) = (numD D, exV r - (z + D.length : Nat), false) := by
  obtain ⟨st, e1, e2, e3, e4, e5⟩ := run_zeros 1 (46 :: (List.replicate z 48 ++ (D ++ r))) rf0 good0 rfl
  obtain ⟨su, f1, f2, f3, f4, f5, f6⟩ := run_dot (r := List.replicate z 48 ++ (D ++ r)) e2 (by rw [e5]; rfl)
  obtain ⟨sv, g1, g2, g3, g4, g5⟩ := run_zeros z (D ++ r) su f2 (by rw [f4, e3])
  obtain ⟨sw, h1, h2, h3, h4, h5, h6⟩ := run_digits D r sv hD (by rw [g3]; omega) g2
  have hman : sw.man = numD D := by rw [h3, g2.z g3]; simp
  unfold readF
  have hb : body (48 :: 46 :: (List.replicate z 48 ++ (D ++ r))) = 48 :: 46 :: (List.replicate z 48 ++ (D ++ r)) := rfl
  have e1' : RF.run (48 :: 46 :: (List.replicate z 48 ++ (D ++ r))) rf0 = RF.run (46 :: (List.replicate z 48 ++ (D ++ r))) st := e1
  rw [hb, e1', f1, g1, h1, run_stop hr]
  simp only
  rw [hman, h2.tr, if_neg hm, h6, g5, f6, if_pos rfl]
  congr 2
  rw [g4, g3, f5, e3] at h5
  omega
end PF
/- The middle way of ParseFloat is right. Conditions: the table of powers. -/
namespace PF
theorem al_all : (List.range 696).all (fun k => decide (aP ((k : Int) - 348) * 1024 ≤ 2046 * aD ((k : Int) - 348)) && decide (aD ((k : Int) - 348) ≤ aP ((k : Int) - 348)) && decide (0 < aD ((k : Int) - 348))) = true := by decide +kernel
/-- A power of ten beside its power of two. -/
theorem al_bounds (p : Int) (h1 : -348 ≤ p) (h2 : p ≤ 347) : 1 ≤ (10 : Rat) ^ p * (2 : Rat) ^ (-lpow p) ∧ 1024 * ((10 : Rat) ^ p * (2 : Rat) ^ (-lpow p)) ≤ 2046 := by
  have h := List.all_eq_true.1 al_all (p + 348).toNat (List.mem_range.2 (by omega))
  rw [show (((p + 348).toNat : Nat) : Int) - 348 = p by omega] at h
  simp only [Bool.and_eq_true, decide_eq_true_eq] at h
  obtain ⟨⟨a, b⟩, c⟩ := h
  have hc : (0 : Rat) < ((aD p : Nat) : Rat) := Rat.natCast_pos.2 c
  have ha := castle a
  have hb := castle b
  rw [Rat.natCast_mul, Rat.natCast_mul] at ha
  rw [ap_ad] at ha hb
  have t1 : ((1024 : Nat) : Rat) = 1024 := rfl
  have t2 : ((2046 : Nat) : Rat) = 2046 := rfl
  rw [t1, t2] at ha
  refine ⟨Rat.le_of_mul_le_mul_right (c := ((aD p : Nat) : Rat)) ?_ hc, Rat.le_of_mul_le_mul_right (c := ((aD p : Nat) : Rat)) ?_ hc⟩
  · rw [Rat.one_mul]; exact hb
  · generalize ((aD p : Nat) : Rat) = x at *
    generalize (10 : Rat) ^ p * (2 : Rat) ^ (-lpow p) = y at *
    grind
theorem blen_spec {d : Nat} (hd : 0 < d) : ∃ b, blen d = b + 1 ∧ 2 ^ b ≤ d ∧ d < 2 ^ (b + 1) := by
  unfold blen
  rw [if_neg (by omega)]
  exact ⟨d.log2, rfl, Nat.log2_self_le (by omega), Nat.lt_log2_self⟩
theorem rung53 (k : Nat) : (k + 1) * 4503599627370496 + 4503599627370496 = k * 4503599627370496 + 9007199254740992 := by omega
/-- What becomes of the unrounded number. -/
theorem unr_near {u k r0 : Nat} {v V : Rat} (hu : UR u v) (hV : V = 2 * v * ((2 ^ k : Nat) : Rat)) (hlow : 0 < k → (4503599627370496 : Rat) ≤ v) (hup : v < 18000000000000000) (h : Near V r0) :
    ∃ n, rnd (if decide (36028797018963966 ≤ u) then u / 2 ||| u % 2 else u) = n ∧ n < 9007199254740992 ∧ r0 = (k + (decide (36028797018963966 ≤ u)).toNat) * 4503599627370496 + n ∧ (n < 4503599627370496 → k = 0 ∧ (decide (36028797018963966 ≤ u)).toNat = 0) := by
  by_cases hb : 36028797018963966 ≤ u
  · rw [decide_eq_true hb]
    simp only [if_true, Bool.toNat_true]
    have hh := hu.half
    obtain ⟨n, hn⟩ : ∃ n, rnd (u / 2 ||| u % 2) = n := ⟨_, rfl⟩
    obtain ⟨c1, c2, c3⟩ := hh.rnd
    rw [hn] at c1 c2 c3 ⊢
    have hle := hu.le
    have l1 := castle (show 18014398509481983 ≤ u / 2 by omega)
    have t1 : ((18014398509481983 : Nat) : Rat) = 18014398509481983 := rfl
    rw [t1] at l1
    have e2 : 2 * (v / 2) = v := by grind
    rw [e2] at c1 c2 c3
    have n53 : n < 9007199254740992 := by
      refine Nat.lt_of_not_le fun hc => ?_
      have := castle hc
      have t2 : ((9007199254740992 : Nat) : Rat) = 9007199254740992 := rfl
      rw [t2] at this
      grind
    have n52 : 4503599627370496 ≤ n := by
      refine Nat.le_of_not_lt fun hc => ?_
      have := castle (show n ≤ 4503599627370495 by omega)
      have t2 : ((4503599627370495 : Nat) : Rat) = 4503599627370495 := rfl
      rw [t2] at this
      grind
    refine ⟨n, rfl, n53, ?_, fun h => by omega⟩
    by_cases hv : (9007199254740992 : Rat) ≤ v
    · have hV2 : V = v * ((2 ^ (k + 1) : Nat) : Rat) := by
        rw [hV, Nat.pow_succ, Rat.natCast_mul]
        have : ((2 : Nat) : Rat) = 2 := rfl
        rw [this]; grind
      have := near_of hV2 (.inr n52) (by omega) (fun _ => hv) c1 c2 c3
      exact h.unique this
    · have hv' : v < 9007199254740992 := Rat.not_le.1 hv
      have hn52 : n = 4503599627370496 := by
        refine Nat.le_antisymm (Nat.le_of_not_lt fun hc => ?_) n52
        have := castle (show 4503599627370497 ≤ n by omega)
        have t2 : ((4503599627370497 : Nat) : Rat) = 4503599627370497 := rfl
        rw [t2] at this
        grind
      have t2 : ((9007199254740992 : Nat) : Rat) = 9007199254740992 := rfl
      have hx := near_of (n := 9007199254740992) hV (.inr (by decide)) (Nat.le_refl _) (fun _ => by grind) (by rw [t2]; grind) (by rw [t2]; grind) (fun h => by cases h)
      have e := h.unique hx
      rw [e, hn52]
      exact (rung53 k).symm
  · rw [decide_eq_false hb]
    simp only [Bool.false_eq_true, if_false, Bool.toNat_false, Nat.add_zero]
    obtain ⟨n, hn⟩ : ∃ n, rnd u = n := ⟨_, rfl⟩
    obtain ⟨c1, c2, c3⟩ := hu.rnd
    have n53 : n < 9007199254740992 := by
      rw [← hn]
      unfold rnd
      have : u / 4 % 2 < 2 := Nat.mod_lt _ (by omega)
      omega
    rw [hn] at c1 c2 c3 ⊢
    have hlow2 : 0 < k → (9007199254740992 : Rat) ≤ 2 * v := fun h => by have := hlow h; grind
    have n52 : k = 0 ∨ 4503599627370496 ≤ n := by
      rcases Nat.eq_zero_or_pos k with h0 | h0
      · exact .inl h0
      · right
        have := hlow2 h0
        refine Nat.le_of_not_lt fun hc => ?_
        have e := castle (show n ≤ 4503599627370495 by omega)
        have t2 : ((4503599627370495 : Nat) : Rat) = 4503599627370495 := rfl
        rw [t2] at e
        grind
    refine ⟨n, rfl, n53, ?_, fun h => ⟨by omega, trivial⟩⟩
    have := near_of hV n52 (by omega) hlow2 c1 c2 c3
    exact h.unique this
theorem pack_of {k n : Nat} {e : Int} {r0 : Nat} (neg : Bool) (hn : n < 9007199254740992) (hr : r0 = k * 4503599627370496 + n) (hr2 : r0 < 9218868437227405312) (hk : n < 4503599627370496 → k = 0) (he : e = (k : Int) - 1074) : pack (sgn neg + n) e = (sgn neg + r0, false) := by
  have hs : sgn neg = 0 ∨ sgn neg = 9223372036854775808 := by unfold sgn; split <;> simp
  unfold pack
  by_cases h : n < 4503599627370496
  · have := hk h
    rw [if_pos (by omega)]
    refine Prod.ext ?_ rfl
    simp only
    omega
  · rw [if_neg (by omega), if_neg (by omega)]
    refine Prod.ext ?_ rfl
    simp only
    omega
/-- THE MIDDLE WAY: it gives the float that is nearest. -/
theorem par64_near {T : Int → Nat × Nat} (hT : TabPow T) {d r0 : Nat} {p : Int} (hd0 : 0 < d) (hd : d ≤ qMax) (h1 : -348 ≤ p) (h2 : p ≤ 347) (h : Near ((d : Rat) * (10 : Rat) ^ p * (2 : Rat) ^ (1075 : Int)) r0) (hr0 : 0 < r0) (hr : r0 < 9218868437227405312) (neg : Bool) : par64 T d p neg = (sgn neg + r0, false) := by
  obtain ⟨b, hb, hb1, hb2⟩ := blen_spec hd0
  obtain ⟨a1, a2⟩ := al_bounds p h1 h2
  have hb58 : b ≤ 57 := by
    refine Nat.le_of_not_lt fun hc => ?_
    have : 2 ^ 58 ≤ 2 ^ b := Nat.pow_le_pow_right (by decide) hc
    unfold qMax at hd
    omega
  obtain ⟨lp, hlp⟩ : ∃ l, lpow p = l := ⟨_, rfl⟩
  rw [hlp] at a1 a2
  have hten : (10 : Rat) ^ p = ((10 : Rat) ^ p * (2 : Rat) ^ (-lp)) * (2 : Rat) ^ lp := by
    rw [Rat.mul_assoc, ← Rat.zpow_add r2, show -lp + lp = 0 by omega, Rat.zpow_zero, Rat.mul_one]
  obtain ⟨al, hal⟩ : ∃ al, (10 : Rat) ^ p * (2 : Rat) ^ (-lp) = al := ⟨_, rfl⟩
  rw [hal] at a1 a2 hten
  have dr1 : (2 : Rat) ^ (b : Int) ≤ (d : Rat) := by rw [← cast2]; exact castle hb1
  have dr2 : (d : Rat) < 2 * (2 : Rat) ^ (b : Int) := by
    have := castlt hb2
    rw [cast2] at this
    rw [← half2]
    exact this
  obtain ⟨E, hE⟩ : ∃ E, pE d p = E := ⟨_, rfl⟩
  have hE' : E = min 1074 (52 - (b : Int) - lp) := by rw [← hE]; unfold pE; rw [hb, hlp]; omega
  obtain ⟨S, hS⟩ : ∃ S, pS d p = S := ⟨_, rfl⟩
  have hS' : S = -(E - (63 - (b : Int)) + lp + 3) := by rw [← hS]; unfold pS; rw [hb, hlp, hE]; omega
  unfold par64
  rw [hS]
  by_cases hc : 64 ≤ S
  · -- nothing is left of it
    exfalso
    have hV : Near ((d : Rat) * (10 : Rat) ^ p * (2 : Rat) ^ (1075 : Int)) 0 := by
      have m0 : midR 0 = 1 := by decide
      have lt1 : (d : Rat) * (10 : Rat) ^ p * (2 : Rat) ^ (1075 : Int) < 1 := by
        rw [hten]
        have e1 : (2 : Rat) ^ (b : Int) * (2 : Rat) ^ lp * (2 : Rat) ^ (1075 : Int) ≤ 1 / 8 := by
          rw [← Rat.zpow_add r2, ← Rat.zpow_add r2]
          have e2 : (2 : Rat) ^ (-3 : Int) = 1 / 8 := by decide +kernel
          rw [← e2]
          obtain ⟨j, hj⟩ : ∃ j : Nat, (-3 : Int) = (b : Int) + lp + 1075 + j := ⟨(-3 - ((b : Int) + lp + 1075)).toNat, by omega⟩
          rw [hj, Rat.zpow_add r2 _ (j : Int), Rat.zpow_add r2 ((b : Int) + lp), ← cast2 j]
          have := castle (show 1 ≤ 2 ^ j from Nat.one_le_two_pow)
          have t : ((1 : Nat) : Rat) = 1 := rfl
          rw [t] at this
          have := Rat.mul_le_mul_of_nonneg_left this (Rat.le_of_lt (p2 ((b : Int) + lp + 1075)))
          rw [Rat.zpow_add r2 ((b : Int) + lp)] at this
          grind
        have q1 : (d : Rat) * al < 4 * (2 : Rat) ^ (b : Int) := by
          have : (d : Rat) * al ≤ (d : Rat) * 2 := Rat.mul_le_mul_of_nonneg_left (by grind) (Rat.natCast_nonneg)
          grind
        have q2 := Rat.mul_lt_mul_of_pos_right q1 (Rat.mul_pos (p2 lp) (p2 1075))
        generalize (2 : Rat) ^ lp = x at *
        generalize (2 : Rat) ^ (1075 : Int) = y at *
        generalize (2 : Rat) ^ (b : Int) = z at *
        clear h hten hal dr1 dr2 q1
        grind
      refine ⟨fun h => by omega, fun h => by omega, ?_, fun h => by omega⟩
      rw [m0]
      exact Rat.le_of_lt lt1
    have := h.unique hV
    omega
  · rw [if_neg hc]
    have hS8 : 8 ≤ S := by omega
    obtain ⟨s, hs⟩ : ∃ s : Nat, S = s := ⟨S.toNat, by omega⟩
    have hs' : S.toNat = s := by omega
    have hx : d * 2 ^ (64 - blen d) % two64 = d * 2 ^ (63 - b) := by
      rw [hb, show 64 - (b + 1) = 63 - b by omega]
      refine Nat.mod_eq_of_lt ?_
      calc d * 2 ^ (63 - b) < 2 ^ (b + 1) * 2 ^ (63 - b) := (Nat.mul_lt_mul_right (Nat.two_pow_pos _)).2 hb2
        _ = 2 ^ 64 := by rw [← Nat.pow_add, show b + 1 + (63 - b) = 64 by omega]
        _ = two64 := rfl
    have hx1 : d * 2 ^ (63 - b) < two64 := by rw [← hx]; exact Nat.mod_lt _ (by decide)
    have hx2 : 9223372036854775808 ≤ d * 2 ^ (63 - b) := by
      calc 9223372036854775808 = 2 ^ b * 2 ^ (63 - b) := by rw [← Nat.pow_add, show b + (63 - b) = 63 by omega]
        _ ≤ d * 2 ^ (63 - b) := Nat.mul_le_mul_right _ hb1
    rw [hx, hs']
    have hur : UR (usc (d * 2 ^ (63 - b)) (T p) s) (((d * 2 ^ (63 - b) : Nat) : Rat) * (2 : Rat) ^ (E - (63 - (b : Int))) * (10 : Rat) ^ p) := by
      have hcell := hT p h1 h2
      have es : (s : Int) = -(E - (63 - (b : Int)) + lpow p + 3) := by rw [hlp]; omega
      by_cases hj : 63 - b ≤ s + 2
      · exact usc_UR hcell h1 h2 hx1 (by omega) es rfl hj hd
      · have e : d * 2 ^ (63 - b) = d * 2 ^ (63 - b - (s + 2)) * 2 ^ (s + 2) := by
          rw [Nat.mul_assoc, ← Nat.pow_add, show 63 - b - (s + 2) + (s + 2) = 63 - b by omega]
        refine usc_UR hcell h1 h2 hx1 (by omega) es e (Nat.le_refl _) ?_
        have h10 : 2 ^ 10 ≤ 2 ^ (s + 2) := Nat.pow_le_pow_right (by decide) (by omega)
        rw [e] at hx1
        have : d * 2 ^ (63 - b - (s + 2)) * 2 ^ 10 ≤ d * 2 ^ (63 - b - (s + 2)) * 2 ^ (s + 2) := Nat.mul_le_mul_left _ h10
        unfold two64 at hx1
        unfold qMax
        omega
    rw [up2 _ (63 - b) d (E - (63 - (b : Int))) p rfl, show (((63 - b : Nat) : Int)) + (E - (63 - (b : Int))) = E by omega] at hur
    obtain ⟨u, hu⟩ : ∃ u, usc (d * 2 ^ (63 - b)) (T p) s = u := ⟨_, rfl⟩
    rw [hu] at hur ⊢
    obtain ⟨v, hv⟩ : ∃ v, (d : Rat) * ((2 : Rat) ^ E * (10 : Rat) ^ p) = v := ⟨_, rfl⟩
    rw [hv] at hur
    obtain ⟨k, hk⟩ : ∃ k : Nat, 1074 - E = k := ⟨(1074 - E).toNat, by omega⟩
    have hV : (d : Rat) * (10 : Rat) ^ p * (2 : Rat) ^ (1075 : Int) = 2 * v * ((2 ^ k : Nat) : Rat) := by
      rw [← hv, cast2, show (1075 : Int) = (E + (k : Int)) + 1 by omega, half2, Rat.zpow_add r2]
      generalize (2 : Rat) ^ E = x
      generalize (2 : Rat) ^ (k : Int) = y
      generalize (10 : Rat) ^ p = z
      grind
    -- the bounds of v
    have hv2 : v = (d : Rat) * al * ((2 : Rat) ^ E * (2 : Rat) ^ lp) := by
      rw [← hv, hten]
      generalize (2 : Rat) ^ E = x
      generalize (2 : Rat) ^ lp = y
      grind
    have hup : v < 18000000000000000 := by
      have e1 : (2 : Rat) ^ (b : Int) * ((2 : Rat) ^ E * (2 : Rat) ^ lp) ≤ 4503599627370496 := by
        rw [← Rat.zpow_add r2, ← Rat.zpow_add r2]
        have e2 : (2 : Rat) ^ (52 : Int) = 4503599627370496 := by decide +kernel
        rw [← e2]
        obtain ⟨j, hj⟩ : ∃ j : Nat, (52 : Int) = (b : Int) + (E + lp) + j := ⟨(52 - ((b : Int) + (E + lp))).toNat, by omega⟩
        rw [hj, Rat.zpow_add r2 _ (j : Int), Rat.zpow_add r2 (b : Int), ← cast2 j]
        have := castle (show 1 ≤ 2 ^ j from Nat.one_le_two_pow)
        have t : ((1 : Nat) : Rat) = 1 := rfl
        rw [t] at this
        have := Rat.mul_le_mul_of_nonneg_left this (Rat.le_of_lt (p2 ((b : Int) + (E + lp))))
        rw [Rat.zpow_add r2 (b : Int)] at this
        grind
      have q1 : 1024 * ((d : Rat) * al) < 4092 * (2 : Rat) ^ (b : Int) := by
        have : (d : Rat) * (1024 * al) ≤ (d : Rat) * 2046 := Rat.mul_le_mul_of_nonneg_left a2 (Rat.natCast_nonneg)
        grind
      have q2 := Rat.mul_lt_mul_of_pos_right q1 (Rat.mul_pos (p2 E) (p2 lp))
      rw [hv2]
      generalize (2 : Rat) ^ E * (2 : Rat) ^ lp = x at *
      generalize (2 : Rat) ^ (b : Int) = z at *
      generalize (d : Rat) * al = t at *
      clear h hten hal dr1 dr2 q1 hV hur hv2
      grind
    have hlow : 0 < k → (4503599627370496 : Rat) ≤ v := by
      intro hk0
      have e1 : (2 : Rat) ^ (b : Int) * ((2 : Rat) ^ E * (2 : Rat) ^ lp) = 4503599627370496 := by
        rw [← Rat.zpow_add r2, ← Rat.zpow_add r2, show (b : Int) + (E + lp) = 52 by omega]
        decide +kernel
      have q1 : (2 : Rat) ^ (b : Int) ≤ (d : Rat) * al := by
        have : (d : Rat) * 1 ≤ (d : Rat) * al := Rat.mul_le_mul_of_nonneg_left a1 (Rat.natCast_nonneg)
        grind
      have q2 := Rat.mul_le_mul_of_nonneg_right q1 (Rat.le_of_lt (Rat.mul_pos (p2 E) (p2 lp)))
      rw [hv2]
      rw [e1] at q2
      exact q2
    obtain ⟨n, hn, hn2, hr2, hn3⟩ := unr_near hur hV hlow hup h
    simp only
    rw [hn, hE]
    cases hbb : decide (36028797018963966 ≤ u) with
    | true =>
      rw [hbb] at hr2 hn3
      simp only [Bool.toNat_true] at hr2 hn3
      exact pack_of (k := k + 1) neg hn2 hr2 hr (fun h => by have := (hn3 h).2; omega) (by simp only [if_true]; omega)
    | false =>
      rw [hbb] at hr2 hn3
      simp only [Bool.toNat_false, Nat.add_zero] at hr2 hn3
      exact pack_of (k := k) neg hn2 hr2 hr (fun h => (hn3 h).1) (by simp only [Bool.false_eq_true, if_false]; omega)
end PF
/- IEEE's rounding gives the rung that is nearest. No condition. -/
namespace PF
open Ieee
theorem cut_even (neg : Bool) (N drop : Nat) : ∃ n, Toward.even.cut neg N drop = n ∧ 2 * n * 2 ^ drop ≤ 2 * N + 2 ^ drop ∧ 2 * N ≤ (2 * n + 1) * 2 ^ drop ∧ (n % 2 = 1 → 2 * n * 2 ^ drop < 2 * N + 2 ^ drop ∧ 2 * N < (2 * n + 1) * 2 ^ drop) := by
  refine ⟨_, rfl, ?_⟩
  unfold Toward.cut
  dsimp only
  rw [Nat.shiftLeft_eq, Nat.one_mul]
  by_cases hd : drop ≤ N.log2 + 2
  · rw [Nat.min_eq_left hd]
    obtain ⟨g, hg⟩ : ∃ g, 2 ^ drop = g := ⟨_, rfl⟩
    have hg0 : 0 < g := by rw [← hg]; exact Nat.two_pow_pos _
    rw [hg]
    obtain ⟨q, hq⟩ : ∃ q, N / g = q := ⟨_, rfl⟩
    obtain ⟨r, hr⟩ : ∃ r, N % g = r := ⟨_, rfl⟩
    have hN : N = g * q + r := by rw [← hq, ← hr]; exact (Nat.div_add_mod _ _).symm
    have hr2 : r < g := by rw [← hr]; exact Nat.mod_lt _ hg0
    rw [hq, hr]
    obtain ⟨x, hx⟩ : ∃ x, g * q = x := ⟨_, rfl⟩
    rw [hx] at hN
    subst hN
    by_cases c1 : g < 2 * r
    · have b : (decide (g < 2 * r) || g == 2 * r && q % 2 == 1).toNat = 1 := by rw [decide_eq_true c1]; rfl
      rw [b]
      have e1 : 2 * (q + 1) * g = 2 * x + 2 * g := by rw [← hx]; grind
      have e2 : (2 * (q + 1) + 1) * g = 2 * x + 3 * g := by rw [← hx]; grind
      rw [e1, e2]
      refine ⟨by omega, by omega, fun _ => ⟨by omega, by omega⟩⟩
    · by_cases c2 : g = 2 * r ∧ q % 2 = 1
      · have b : (decide (g < 2 * r) || g == 2 * r && q % 2 == 1).toNat = 1 := by
          rw [decide_eq_false c1, beq_iff_eq.2 c2.1, beq_iff_eq.2 c2.2]; rfl
        rw [b]
        have e1 : 2 * (q + 1) * g = 2 * x + 2 * g := by rw [← hx]; grind
        have e2 : (2 * (q + 1) + 1) * g = 2 * x + 3 * g := by rw [← hx]; grind
        rw [e1, e2]
        refine ⟨by omega, by omega, fun h => ?_⟩
        have := c2.2
        omega
      · have b : (decide (g < 2 * r) || g == 2 * r && q % 2 == 1).toNat = 0 := by
          rw [decide_eq_false c1]
          by_cases c3 : g = 2 * r
          · have : ¬ q % 2 = 1 := fun h => c2 ⟨c3, h⟩
            rw [beq_eq_false_iff_ne.2 this]
            simp
          · rw [beq_eq_false_iff_ne.2 c3]; rfl
        rw [b, Nat.add_zero]
        have e1 : 2 * q * g = 2 * x := by rw [← hx]; grind
        have e2 : (2 * q + 1) * g = 2 * x + g := by rw [← hx]; grind
        rw [e1, e2]
        refine ⟨by omega, by omega, fun h => ⟨by omega, ?_⟩⟩
        have : ¬ g = 2 * r := fun h2 => c2 ⟨h2, h⟩
        omega
  · rw [Nat.min_eq_right (by omega)]
    have hN : N < 2 ^ (N.log2 + 1) := Nat.lt_log2_self
    have h2 : 2 ^ (N.log2 + 2) = 2 * 2 ^ (N.log2 + 1) := by rw [Nat.pow_succ 2 (N.log2 + 1)]; omega
    have h3 : 2 ^ (N.log2 + 2) ≤ 2 ^ drop := Nat.pow_le_pow_right (by decide) (by omega)
    obtain ⟨a, ha⟩ : ∃ a, 2 ^ (N.log2 + 1) = a := ⟨_, rfl⟩
    obtain ⟨g, hg⟩ : ∃ g, 2 ^ drop = g := ⟨_, rfl⟩
    rw [h2] at h3 ⊢
    rw [ha] at hN h3 ⊢
    rw [hg] at h3 ⊢
    rw [Nat.div_eq_of_lt (by omega), Nat.mod_eq_of_lt (by omega : N < 2 * a)]
    have b : (decide (2 * a < 2 * N) || 2 * a == 2 * N && (0 : Nat) % 2 == 1).toNat = 0 := by
      rw [decide_eq_false (by omega)]
      simp
    rw [b]
    refine ⟨by omega, by omega, fun h => by omega⟩
theorem word_sgn (neg : Bool) (r : Nat) : double.word neg r = sgn neg + r := by
  unfold Format.word sgn
  cases neg with
  | true => rfl
  | false => simp
/-- The number that is rounded is mag, or it lies beside an odd mag of many digits. -/
def Beside (tm : Rat) (mag : Nat) : Prop := tm = (mag : Rat) ∨ (∃ Q : Nat, mag = 2 * Q + 1 ∧ 9007199254740992 ≤ Q ∧ 2 * (Q : Rat) < tm ∧ tm < 2 * (Q : Rat) + 2)
theorem Beside.le {tm : Rat} {mag c : Nat} (h : Beside tm mag) (hc : 9007199254740992 ≤ mag / 2 → c % 2 = 0) (hm : c ≤ mag) : (c : Rat) ≤ tm ∧ (c < mag → (c : Rat) < tm) := by
  rcases h with rfl | ⟨Q, h1, h2, h3, h4⟩
  · exact ⟨castle hm, fun h => castlt h⟩
  · have := hc (by omega)
    have := castle (show c ≤ 2 * Q by omega)
    rw [casttw] at this
    exact ⟨by grind, fun _ => by grind⟩
theorem Beside.ge {tm : Rat} {mag c : Nat} (h : Beside tm mag) (hc : 9007199254740992 ≤ mag / 2 → c % 2 = 0) (hm : mag ≤ c) : tm ≤ (c : Rat) ∧ (mag < c → tm < (c : Rat)) := by
  rcases h with rfl | ⟨Q, h1, h2, h3, h4⟩
  · exact ⟨castle hm, fun h => castlt h⟩
  · have := hc (by omega)
    have := castle (show 2 * Q + 2 ≤ c by omega)
    rw [Rat.natCast_add, casttw] at this
    have t : ((2 : Nat) : Rat) = 2 := rfl
    rw [t] at this
    exact ⟨by grind, fun _ => by grind⟩
theorem Beside.exact {tm : Rat} {mag : Nat} (h : Beside tm mag) (hm : mag / 2 < 9007199254740992) : tm = (mag : Rat) := by
  rcases h with rfl | ⟨Q, h1, h2, h3, h4⟩
  · rfl
  · omega
/-- What is cut is rounded rightly. -/
theorem cut_round {tm : Rat} {mag : Nat} (hb : Beside tm mag) (neg : Bool) (a drop : Nat) (had : a = 0 ∨ drop = 0) (hdrop : 9007199254740992 ≤ mag / 2 → 2 ≤ drop) :
    ∃ n, Toward.even.cut neg (mag * 2 ^ a) drop = n ∧ ∀ w : Rat, w * ((2 ^ drop : Nat) : Rat) = 2 * tm * ((2 ^ a : Nat) : Rat) → 2 * (n : Rat) ≤ w + 1 ∧ w ≤ 2 * (n : Rat) + 1 ∧ (n % 2 = 1 → 2 * (n : Rat) < w + 1 ∧ w < 2 * (n : Rat) + 1) := by
  obtain ⟨n, hn, h1, h2, h3⟩ := cut_even neg (mag * 2 ^ a) drop
  refine ⟨n, hn, fun w hw => ?_⟩
  by_cases hd : drop = 0
  · subst hd
    have hex := hb.exact (Nat.lt_of_not_le fun h => by have := hdrop h; omega)
    rw [Nat.pow_zero, Nat.mul_one] at h1 h2
    have hnN : n = mag * 2 ^ a := by omega
    have e1 : w = 2 * (n : Rat) := by
      rw [hnN, Rat.natCast_mul, ← hex]
      have : ((2 ^ 0 : Nat) : Rat) = 1 := rfl
      rw [this] at hw
      grind
    exact ⟨by grind, by grind, fun _ => ⟨by grind, by grind⟩⟩
  · have ha : a = 0 := by omega
    subst ha
    obtain ⟨d, rfl⟩ : ∃ d, drop = d + 1 := ⟨drop - 1, by omega⟩
    rw [Nat.pow_zero, Nat.mul_one, Nat.pow_succ] at h1 h2 h3
    obtain ⟨g, hg⟩ : ∃ g, 2 ^ d = g := ⟨_, rfl⟩
    have hg0 : 0 < g := by rw [← hg]; exact Nat.two_pow_pos _
    have hgr : (0 : Rat) < (g : Rat) := Rat.natCast_pos.2 hg0
    have hgev : 9007199254740992 ≤ mag / 2 → g % 2 = 0 := fun h => by
      have := hdrop h
      obtain ⟨c, rfl⟩ : ∃ c, d = c + 1 := ⟨d - 1, by omega⟩
      rw [← hg, Nat.pow_succ]
      omega
    rw [hg] at h1 h2 h3
    have e0 : w * (g : Rat) = tm := by
      have t : ((2 ^ 0 : Nat) : Rat) = 1 := rfl
      rw [t, Nat.pow_succ, Rat.natCast_mul, hg] at hw
      have t2 : ((2 : Nat) : Rat) = 2 := rfl
      rw [t2] at hw
      grind
    have b1 : 2 * n * (g * 2) = 2 * (2 * n * g) := by grind
    have b2 : (2 * n + 1) * (g * 2) = 2 * ((2 * n + 1) * g) := by grind
    rw [b1] at h1 h3
    rw [b2] at h2 h3
    have ge := hb.ge (c := (2 * n + 1) * g) (fun h => by rw [Nat.mul_mod, hgev h]; simp) (by omega)
    rw [Rat.natCast_mul, cast1, casttw] at ge
    have up : w ≤ 2 * (n : Rat) + 1 ∧ (n % 2 = 1 → w < 2 * (n : Rat) + 1) := by
      refine ⟨Rat.le_of_mul_le_mul_right (c := (g : Rat)) (by rw [e0]; exact ge.1) hgr, fun h => Rat.lt_of_mul_lt_mul_right (c := (g : Rat)) (by rw [e0]; exact ge.2 (by have := (h3 h).2; omega)) (Rat.le_of_lt hgr)⟩
    have dn : 2 * (n : Rat) ≤ w + 1 ∧ (n % 2 = 1 → 2 * (n : Rat) < w + 1) := by
      rcases Nat.eq_zero_or_pos n with h0 | h0
      · subst h0
        have le := hb.le (c := 0) (fun _ => rfl) (Nat.zero_le _)
        have z : ((0 : Nat) : Rat) = 0 := rfl
        rw [z] at le ⊢
        have w0 : 0 ≤ w := Rat.le_of_mul_le_mul_right (c := (g : Rat)) (by rw [e0, Rat.zero_mul]; exact le.1) hgr
        exact ⟨by grind, fun h => by omega⟩
      · obtain ⟨m, rfl⟩ : ∃ m, n = m + 1 := ⟨n - 1, by omega⟩
        have b3 : 2 * (m + 1) * g = (2 * m + 1) * g + g := by grind
        rw [b3] at h1 h3
        have le := hb.le (c := (2 * m + 1) * g) (fun h => by rw [Nat.mul_mod, hgev h]; simp) (by omega)
        rw [Rat.natCast_mul, cast1, casttw] at le
        rw [cast1]
        have l1 : 2 * (m : Rat) + 1 ≤ w := Rat.le_of_mul_le_mul_right (c := (g : Rat)) (by rw [e0]; exact le.1) hgr
        refine ⟨by grind, fun h => ?_⟩
        have l2 : 2 * (m : Rat) + 1 < w := Rat.lt_of_mul_lt_mul_right (c := (g : Rat)) (by rw [e0]; exact le.2 (by have := (h3 h).1; omega)) (Rat.le_of_lt hgr)
        grind
    exact ⟨dn.1, up.1, fun h => ⟨dn.2 h, up.2 h⟩⟩
/-- IEEE's rounding: the rung that is nearest, or infinity. -/
theorem nearest_ex {mag : Nat} {place : Int} {tm V : Rat} (hm : 0 < mag) (hb : Beside tm mag) (hV : V = tm * (2 : Rat) ^ (place + 1075)) (neg : Bool) : ∃ r, Near V r ∧ double.nearest neg mag place = sgn neg + min r 9218868437227405312 := by
  obtain ⟨L, hL⟩ : ∃ L, mag.log2 = L := ⟨_, rfl⟩
  have hL1 : 2 ^ L ≤ mag := by rw [← hL]; exact Nat.log2_self_le (by omega)
  have hL2 : mag < 2 ^ (L + 1) := by rw [← hL]; exact Nat.lt_log2_self
  obtain ⟨last, hlast⟩ : ∃ last : Int, max (place + (L : Int) - ((52 : Nat) : Int)) (-1074) = last := ⟨_, rfl⟩
  obtain ⟨k, hk⟩ : ∃ k, (last - -1074).toNat = k := ⟨_, rfl⟩
  have hbig : 9007199254740992 ≤ mag / 2 → 54 ≤ L := fun hc => by
    refine Nat.le_of_not_lt fun hh => ?_
    have : 2 ^ (L + 1) ≤ 2 ^ 54 := Nat.pow_le_pow_right (by decide) (by omega)
    omega
  obtain ⟨n, hn, hw⟩ := cut_round hb neg (place - last).toNat (last - place).toNat (by omega) (fun hc => by have := hbig hc; omega)
  obtain ⟨w, hww⟩ : ∃ w, 2 * tm * (2 : Rat) ^ (place - last) = w := ⟨_, rfl⟩
  have hw2 : w * ((2 ^ (last - place).toNat : Nat) : Rat) = 2 * tm * ((2 ^ (place - last).toNat : Nat) : Rat) := by
    rw [← hww, cast2, cast2, Rat.mul_assoc, ← Rat.zpow_add r2]
    congr 2
    omega
  obtain ⟨c1, c2, c3⟩ := hw w hw2
  have hVw : V = w * ((2 ^ k : Nat) : Rat) := by
    rw [hV, ← hww, cast2, Rat.mul_assoc (2 * tm), ← Rat.zpow_add r2, show place + 1075 = (place - last + (k : Int)) + 1 by omega, half2]
    grind
  have hlow : 0 < k → (9007199254740992 : Rat) ≤ w := by
    intro hk0
    have el : place - last = 52 - (L : Int) := by omega
    have le := (hb.le (c := 2 ^ L) (fun hc => by
      have := hbig hc
      obtain ⟨j, rfl⟩ : ∃ j, L = j + 1 := ⟨L - 1, by omega⟩
      rw [Nat.pow_succ]; omega) hL1).1
    rw [cast2] at le
    rw [← hww, el]
    have t : (9007199254740992 : Rat) = 2 * ((2 : Rat) ^ (L : Int) * (2 : Rat) ^ (52 - (L : Int))) := by
      rw [← Rat.zpow_add r2, show (L : Int) + (52 - (L : Int)) = 52 by omega]
      decide +kernel
    rw [t]
    have := Rat.mul_le_mul_of_nonneg_right le (Rat.le_of_lt (p2 (52 - (L : Int))))
    grind
  have hkn : k = 0 ∨ 4503599627370496 ≤ n := by
    rcases Nat.eq_zero_or_pos k with h0 | h0
    · exact .inl h0
    · right
      have := hlow h0
      refine Nat.le_of_not_lt fun hc => ?_
      have e := castle (show n + 1 ≤ 4503599627370496 by omega)
      rw [cast1] at e
      have t : ((4503599627370496 : Nat) : Rat) = 4503599627370496 := rfl
      rw [t] at e
      grind
  have hn53 : n ≤ 9007199254740992 := by
    have := cut_le neg (mag * 2 ^ (place - last).toNat) (last - place).toNat (by
      calc mag * 2 ^ (place - last).toNat < 2 ^ (L + 1) * 2 ^ (place - last).toNat := Nat.mul_lt_mul_of_pos_right hL2 (Nat.two_pow_pos _)
        _ = 2 ^ (L + 1 + (place - last).toNat) := (Nat.pow_add _ _ _).symm
        _ ≤ 2 ^ (53 + (last - place).toNat) := Nat.pow_le_pow_right (by omega) (by omega))
    rw [hn] at this
    exact this
  have hnear := near_of hVw hkn hn53 hlow c1 c2 c3
  refine ⟨_, hnear, ?_⟩
  unfold Format.nearest
  rw [if_neg (by omega)]
  dsimp only
  have hl : double.leastPlace = -1074 := by decide
  have hf : double.fractionBits = 52 := rfl
  have hbn : double.binade = 4503599627370496 := rfl
  have hinf : double.infRung = 9218868437227405312 := rfl
  rw [hl, hf, hbn, hinf, hL, hlast, Nat.shiftLeft_eq, hn, hk]
  exact word_sgn neg _
theorem nearest_gen {mag r0 : Nat} {place : Int} {tm V : Rat} (hm : 0 < mag) (hb : Beside tm mag) (hV : V = tm * (2 : Rat) ^ (place + 1075)) (h : Near V r0) (hr : r0 < 9218868437227405312) (neg : Bool) : double.nearest neg mag place = sgn neg + r0 := by
  obtain ⟨r, h1, h2⟩ := nearest_ex hm hb hV neg
  have := h1.unique h
  subst this
  rw [h2, Nat.min_eq_left (Nat.le_of_lt hr)]
end PF
