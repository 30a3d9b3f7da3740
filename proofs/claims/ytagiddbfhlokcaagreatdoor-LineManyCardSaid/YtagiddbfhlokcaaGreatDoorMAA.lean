/- Several texts of this proof, laid together. Conditions: as each says. -/
import Derived.Shelf.Small.Bits
import Derived.Shelf.Bits.Mul64
import Derived.Shelf.Strconv.Itoa0
import Derived.Test.YtagiddbfhlokcaaGreatDoorProg
import Ieee.Arith
import Derived.Laws.FloatArith
import Derived.Test.YtagiddbfhlokcaaGreatDoorRows
import Derived.WalkKit
import Derived.ProofKit
import Derived.OpenShut
import Derived.Below
import Derived.WalkLawsBesides
import Derived.WalkSpells
import Derived.BigQuiet
import Derived.Lib.Hide
import Derived.Laws.Bits64b
import Derived.Laws.Shifts
import Derived.Laws.BitsAllLaws
import Derived.Laws.ShiftsVar
import Derived.Laws.ShiftsVarLaws
import Derived.Tactics
import Derived.Tactics2
import Derived.Defers
import Derived.Laws.Pointers
import Derived.Laws.LoneSync
import Derived.RegionTactic
import Derived.RegionCalls
import Derived.ChangeAlike
/- Some of the shelf's contracts at this program, as lay-plain laid them. -/
namespace Go.Proofs
open Go.Shelf
def Tryz.lays129_ren : Go.Shelf.Ren := ⟨fun | 129 => 132 | n => n, fun | 53 => 51 | 3 => 3 | 4 => 4 | 46 => 60 | 5 => 5 | 9 => 9 | n => n, fun | n => n⟩
theorem Tryz.lays129 : Go.Proofs.Lays.n129 Tryz.prog Tryz.lays129_ren := {
  mixed := by kernel_rfl
  f129 := Tryz.func132.trans (congrArg some (by kernel_rfl))
  t3 := Tryz.underlying3
  a3 := Tryz.isAgg3
  z3 := Tryz.sizeOf3
  v3 := Tryz.zeroValue3
  t4 := Tryz.underlying4
  a4 := Tryz.isAgg4
  z4 := Tryz.sizeOf4
  v4 := Tryz.zeroValue4
  t5 := Tryz.underlying5
  a5 := Tryz.isAgg5
  z5 := Tryz.sizeOf5
  v5 := Tryz.zeroValue5
  t9 := Tryz.underlying9
  a9 := Tryz.isAgg9
  z9 := Tryz.sizeOf9
  v9 := Tryz.zeroValue9
  t46 := Tryz.underlying60
  a46 := Tryz.isAgg60
  z46 := Tryz.sizeOf60
  v46 := Tryz.zeroValue60
  t53 := Tryz.underlying51
  a53 := Tryz.isAgg51
  z53 := Tryz.sizeOf51
  v53 := Tryz.zeroValue51 }
/-- bits.Len64: "Len64 returns the minimum number of bits required to represent x; the result is 0 for x == 0.": IT RETURNS 'Lib.bitLen x'; the world is as it was. ('h0', 'h1': x is a uint64.) (LAID: no walk: one application.) -/
theorem Tryz.bits_Len64 (x : Int) (w : World) (h0 : 0 ≤ x) (h1 : x ≤ 18446744073709551615) :
    Calls Tryz.prog 132 #[.int .u64 x] w fun e w' => e = .returned (.int .i64 (Lib.bitLen x.toNat)) ∧ w' = w := Any.bits_Len64 Tryz.lays129 x w h0 h1
def Tryz.lays264_ren : Go.Shelf.Ren := ⟨fun | 264 => 271 | n => n, fun | 53 => 51 | 46 => 60 | n => n, fun | n => n⟩
theorem Tryz.lays264 : Go.Proofs.Lays.n264 Tryz.prog Tryz.lays264_ren := {
  mixed := by kernel_rfl
  f264 := Tryz.func271.trans (congrArg some (by kernel_rfl))
  t46 := Tryz.underlying60
  a46 := Tryz.isAgg60
  z46 := Tryz.sizeOf60
  v46 := Tryz.zeroValue60
  t53 := Tryz.underlying51
  a53 := Tryz.isAgg51
  z53 := Tryz.sizeOf51
  v53 := Tryz.zeroValue51 }
open Go.RowKit Go.Lib in
theorem Tryz.bits_Mul64 (x y : Nat) (hx : x < 18446744073709551616) (hy : y < 18446744073709551616) (w : World) :
    Calls Tryz.prog 271 #[.int .u64 x, .int .u64 y] w fun e w' => e = .returned (.tuple #[.int .u64 ((x * y / 18446744073709551616 : Nat) : Int), .int .u64 ((x * y % 18446744073709551616 : Nat) : Int)]) ∧ w' = w := Any.bits_Mul64 Tryz.lays264 x y hx hy w
end Go.Proofs
/- How great a float is after a product, a quotient, a conversion: the exponent's field, bounded. No condition. -/
namespace PF
open Ieee
theorem cut_le (neg : Bool) (n drop : Nat) (h : n < 2 ^ (53 + drop)) : Toward.even.cut neg n drop ≤ 2 ^ 53 := by
  unfold Toward.cut
  have hlow : n / (1 <<< min drop (n.log2 + 2)) < 2 ^ 53 := by
    rw [Nat.shiftLeft_eq, Nat.one_mul]
    by_cases hd : drop ≤ n.log2 + 2
    · rw [Nat.min_eq_left hd]
      rw [Nat.div_lt_iff_lt_mul (Nat.two_pow_pos _), ← Nat.pow_add]
      exact h
    · rw [Nat.min_eq_right (by omega)]
      have hn : n < 2 ^ (n.log2 + 2) := Nat.lt_of_lt_of_le (Nat.lt_log2_self (n := n)) (Nat.pow_le_pow_right (by omega) (by omega))
      rw [Nat.div_eq_of_lt hn]
      exact Nat.two_pow_pos _
  have hb : ∀ b : Bool, b.toNat ≤ 1 := by intro b; cases b <;> decide
  have := hb (decide (1 <<< min drop (n.log2 + 2) < 2 * (n % (1 <<< min drop (n.log2 + 2)))) || (1 <<< min drop (n.log2 + 2) == 2 * (n % (1 <<< min drop (n.log2 + 2))) && n / (1 <<< min drop (n.log2 + 2)) % 2 == 1))
  dsimp only
  omega
/-- The exponent's field is at most E. -/
def Low (x E : Nat) : Prop := x % 9223372036854775808 < (E + 1) * 4503599627370496
def Fin (x : Nat) : Prop := x % 9223372036854775808 < 9218868437227405312
theorem Low.fin {x E : Nat} (h : Low x E) (hE : E ≤ 2046) : Fin x := by
  unfold Low at h; unfold Fin; omega
theorem word_mod (neg : Bool) (r : Nat) (h : r < 9223372036854775808) : double.word neg r % 9223372036854775808 = r := by
  unfold Format.word Format.signWeight double
  split
  · show (9223372036854775808 + r) % 9223372036854775808 = r
    omega
  · exact Nat.mod_eq_of_lt h
theorem nearest_low (neg : Bool) (mag : Nat) (place : Int) (E : Nat) (hE : 2 ≤ E) (hE2 : E ≤ 2046) (h : mag ≠ 0 → place + mag.log2 + 1024 ≤ E) : Low (double.nearest neg mag place) E := by
  unfold Format.nearest
  split
  · unfold Low
    rw [word_mod _ _ (by omega)]
    omega
  · rename_i hm
    have h := h hm
    have hl : double.leastPlace = -1074 := by decide
    have hf : double.fractionBits = 52 := rfl
    have hb : double.binade = 4503599627370496 := rfl
    dsimp only
    rw [hl, hf, hb]
    obtain ⟨last, hlast⟩ : ∃ last : Int, max (place + mag.log2 - ((52 : Nat) : Int)) (-1074) = last := ⟨_, rfl⟩
    rw [hlast]
    have h1 : place + mag.log2 - 52 ≤ last := by omega
    have h2 : -1074 ≤ last := by omega
    have h3 : last + 1074 + 2 ≤ E := by omega
    have hk : Toward.even.cut neg (mag <<< (place - last).toNat) (last - place).toNat ≤ 2 ^ 53 := by
      refine cut_le _ _ _ ?_
      rw [Nat.shiftLeft_eq]
      have hm2 : mag < 2 ^ (mag.log2 + 1) := Nat.lt_log2_self
      calc mag * 2 ^ (place - last).toNat < 2 ^ (mag.log2 + 1) * 2 ^ (place - last).toNat := Nat.mul_lt_mul_of_pos_right hm2 (Nat.two_pow_pos _)
        _ = 2 ^ (mag.log2 + 1 + (place - last).toNat) := (Nat.pow_add _ _ _).symm
        _ ≤ 2 ^ (53 + (last - place).toNat) := Nat.pow_le_pow_right (by omega) (by omega)
    obtain ⟨K, hK⟩ : ∃ K, Toward.even.cut neg (mag <<< (place - last).toNat) (last - place).toNat = K := ⟨_, rfl⟩
    obtain ⟨R, hR⟩ : ∃ R, double.infRung = R := ⟨_, rfl⟩
    rw [hK] at hk ⊢
    rw [hR]
    clear hK hR hl hf hb
    unfold Low
    have hr : (last - -1074).toNat * 4503599627370496 + K ≤ E * 4503599627370496 := by omega
    rw [word_mod]
    · omega
    · have : min ((last - -1074).toNat * 4503599627370496 + K) R ≤ E * 4503599627370496 := Nat.le_trans (Nat.min_le_left _ _) hr
      omega
/-- What a word that is not great reads as. -/
theorem read_low {x E : Nat} (h : Low x E) (hE : E ≤ 2046) : ∃ s m i, double.read x = .number s m i ∧ m < 2 ^ 53 ∧ -1074 ≤ i ∧ i + 1075 ≤ max E 1 := by
  have hs : double.signWeight = 9223372036854775808 := rfl
  have hl : double.leastPlace = -1074 := by decide
  have hb : double.binade = 4503599627370496 := rfl
  have hi : double.infRung = 9218868437227405312 := rfl
  unfold Low at h
  unfold Format.read
  simp only [hs, hl, hb, hi]
  split
  · exact ⟨_, _, _, rfl, by omega, by omega, by omega⟩
  · rw [if_pos (by omega)]
    refine ⟨_, _, _, rfl, by omega, by omega, ?_⟩
    have : x % 9223372036854775808 / 4503599627370496 ≤ E := by omega
    omega
theorem log2_lt {m k : Nat} (h : m < 2 ^ k) (hm : m ≠ 0) : m.log2 < k := (Nat.log2_lt hm).2 h
theorem mul_low {x y A B E : Nat} (hx : Low x A) (hy : Low y B) (hA : A ≤ 2046) (hB : B ≤ 2046) (hE : 2 ≤ E) (hE2 : E ≤ 2046) (h : max A 1 + max B 1 ≤ E + 1021) : ∃ r, double.mul x y = some r ∧ Low r E := by
  obtain ⟨s, m, i, e1, m1, i1, i2⟩ := read_low hx hA
  obtain ⟨t, n, j, e2, m2, j1, j2⟩ := read_low hy hB
  refine ⟨_, by unfold Format.mul; rw [e1, e2]; rfl, nearest_low _ _ _ _ hE hE2 fun hmn => ?_⟩
  have hmn2 : m * n < 2 ^ 106 := by
    calc m * n < 2 ^ 53 * 2 ^ 53 := Nat.mul_lt_mul'' m1 m2
      _ = 2 ^ 106 := by decide
  have := log2_lt hmn2 hmn
  omega
theorem ofNat_low (neg : Bool) (n : Nat) (h : n < 2 ^ 64) : Low (double.nearest neg n 0) 1087 := by
  refine nearest_low _ _ _ _ (by omega) (by omega) fun hn => ?_
  have := log2_lt h hn
  omega
theorem neg_low {x E : Nat} (h : Low x E) : Low (x + 9223372036854775808) E ∧ Low (x % 9223372036854775808) E := by unfold Low at *; omega
end PF
/- What ParseFloat reads, in plain Lean: the texts that are read as floats, the mantissa and the exponent. No condition. -/
namespace PF
def isDig (c : UInt8) : Bool := decide (48 ≤ c.toNat) && decide (c.toNat ≤ 57)
/-- Digits to the end, at least one. -/
def okD (l : List UInt8) : Bool := !l.isEmpty && l.all isDig
/-- Behind an e. -/
def okX : List UInt8 → Bool
  | [] => false
  | c :: r => if c = 43 ∨ c = 45 then okD r else okD (c :: r)
/-- The digits, perhaps with a dot, perhaps an exponent behind. -/
def okM (dot saw : Bool) : List UInt8 → Bool
  | [] => saw
  | c :: r => if isDig c then okM dot true r else if c = 46 then (!dot && saw) && okM true false r else (decide (c = 101) || decide (c = 69)) && (saw && okX r)
/-- Without its sign. -/
def body (l : List UInt8) : List UInt8 := match l with | 45 :: r => r | _ => l
def isNeg (l : List UInt8) : Bool := match l with | 45 :: _ => true | _ => false
/-- Is it read as a float? -/
def decB (l : List UInt8) : Bool := okM false false (body l) && decide (l.length ≤ 400)
/-- The state of the loop over the mantissa. -/
structure RF where
  man : Nat
  ds : List Nat
  nm : Nat
  dp : Int
  dot : Bool
  saw : Bool
  tr : Bool
def rf0 : RF := ⟨0, [], 0, 0, false, false, false⟩
/-- How many digits. -/
def RF.nd (st : RF) : Nat := st.ds.length
def RF.step (st : RF) (c : UInt8) : Option RF :=
  if c = 46 then (if st.dot then none else some { st with dot := true, dp := st.nd })
  else if isDig c then
    if c = 48 ∧ st.nd = 0 then some { st with saw := true, dp := st.dp - 1 }
    else if st.nm < 19 then some { st with saw := true, ds := st.ds ++ [c.toNat - 48], man := st.man * 10 + (c.toNat - 48), nm := st.nm + 1 }
    else some { st with saw := true, ds := st.ds ++ [c.toNat - 48], tr := st.tr || decide (c ≠ 48) }
  else none
def RF.run : List UInt8 → RF → RF × List UInt8
  | [], st => (st, [])
  | c :: r, st => match st.step c with | some st' => RF.run r st' | none => (st, c :: r)
/-- An exponent's digits. -/
def exD : List UInt8 → Nat → Nat
  | [], e => e
  | c :: r, e => exD r (if e < 10000 then e * 10 + (c.toNat - 48) else e)
/-- What stands behind the mantissa: 'e', perhaps a sign, digits. -/
def exV : List UInt8 → Int
  | _ :: 45 :: r => -(exD r 0 : Int)
  | _ :: 43 :: r => exD r 0
  | _ :: r => exD r 0
  | [] => 0
/-- Mantissa, exponent, are there digits left out? -/
def readF (l : List UInt8) : Nat × Int × Bool :=
  let (st, rest) := RF.run (body l) rf0
  let dp : Int := (if st.dot then st.dp else st.nd) + exV rest
  (st.man, (if st.man = 0 then 0 else dp - st.nm), st.tr)
theorem RF.run_some {c : UInt8} {r : List UInt8} {st st' : RF} (h : st.step c = some st') : RF.run (c :: r) st = RF.run r st' := by
  simp [RF.run, h]
theorem RF.run_none {c : UInt8} {r : List UInt8} {st : RF} (h : st.step c = none) : RF.run (c :: r) st = (st, c :: r) := by
  simp [RF.run, h]
/-- What holds of the state behind k signs. -/
structure RF.Ok (st : RF) (k : Nat) : Prop where
  nd : st.ds.length ≤ k
  nm : st.nm ≤ st.ds.length
  nm19 : st.nm ≤ 19
  man : st.man < 10 ^ st.nm
  dpl : -(k : Int) ≤ st.dp
  dph : st.dp ≤ k
  dig : ∀ d ∈ st.ds, d ≤ 9
  one : st.ds.headD 1 ≠ 0
theorem rf0_ok : rf0.Ok 0 := ⟨Nat.le_refl _, Nat.le_refl _, by decide, by decide, by decide, by decide, (fun _ h => by cases h), by decide⟩
theorem RF.Ok.step {st st' : RF} {k : Nat} {c : UInt8} (h : st.Ok k) (hs : st.step c = some st') : st'.Ok (k + 1) := by
  obtain ⟨h1, h2, h3, h4, h5, h6, h7, h8⟩ := h
  have dig (d : Nat) (hd : d ≤ 9) : ∀ x ∈ st.ds ++ [d], x ≤ 9 := by
    intro x hx
    rcases List.mem_append.1 hx with hx | hx
    · exact h7 x hx
    · rw [List.mem_singleton.1 hx]; exact hd
  have one (d : Nat) (hd : ¬(d = 0 ∧ st.ds.length = 0)) : (st.ds ++ [d]).headD 1 ≠ 0 := by
    cases he : st.ds with
    | nil => simp only [List.nil_append, List.headD_cons]; rw [he] at hd; simpa using hd
    | cons x t => rw [he] at h8; simpa using h8
  unfold RF.step at hs
  split at hs
  · split at hs
    · cases hs
    · cases hs
      exact ⟨by simp; omega, by simpa using h2, h3, h4, by simp [RF.nd]; omega, by simp [RF.nd]; omega, h7, h8⟩
  · split at hs
    · rename_i hd
      simp only [isDig, Bool.and_eq_true, decide_eq_true_eq] at hd
      split at hs
      · cases hs
        exact ⟨by simp; omega, by simpa using h2, h3, h4, by simp; omega, by simp; omega, h7, h8⟩
      · rename_i hz
        have hz' : ¬(c.toNat - 48 = 0 ∧ st.ds.length = 0) := fun ⟨a, b⟩ => hz ⟨UInt8.toNat_inj.1 (by simp; omega), b⟩
        split at hs
        · cases hs
          refine ⟨by simp; omega, by simp; omega, by simp; omega, ?_, by simp; omega, by simp; omega, dig _ (by omega), one _ hz'⟩
          simp only [Nat.pow_succ]
          omega
        · cases hs
          exact ⟨by simp; omega, by simp; omega, h3, h4, by simp; omega, by simp; omega, dig _ (by omega), one _ hz'⟩
    · cases hs
theorem RF.Ok.run : ∀ {l : List UInt8} {st : RF} {k : Nat}, st.Ok k → (RF.run l st).1.Ok (k + l.length)
  | [], _, _, h => h
  | c :: r, st, k, h => by
    unfold RF.run
    cases hs : st.step c with
    | none =>
      obtain ⟨h1, h2, h3, h4, h5, h6, h7, h8⟩ := h
      exact ⟨by simp; omega, h2, h3, h4, by simp; omega, by simp; omega, h7, h8⟩
    | some st' =>
      have := RF.Ok.run (l := r) (h.step hs)
      simp only [List.length_cons]
      rw [show k + (r.length + 1) = k + 1 + r.length by omega]
      exact this
theorem okM_saw : ∀ (l : List UInt8) {dot : Bool}, okM dot false l = true → okM dot true l = true
  | [], _, h => by simp [okM] at h
  | c :: r, dot, h => by
    unfold okM at h ⊢
    split at h
    · rename_i hd; rw [if_pos hd]; exact h
    · rename_i hd
      rw [if_neg hd]
      split at h
      · simp at h
      · simp at h
/-- What is left behind the mantissa of a text that is read. -/
def Rest (l : List UInt8) : Prop := l = [] ∨ ∃ c r, l = c :: r ∧ (c = 101 ∨ c = 69) ∧ okX r = true
theorem run_ok : ∀ (l : List UInt8) (st : RF) (saw : Bool), okM st.dot saw l = true → (saw = true → st.saw = true) → (RF.run l st).1.saw = true ∧ Rest (RF.run l st).2
  | [], st, saw, h, hs => ⟨hs (by simpa [okM] using h), .inl rfl⟩
  | c :: r, st, saw, h, hs => by
    unfold okM at h
    by_cases hd : isDig c = true
    · rw [if_pos hd] at h
      have h46 : ¬c = 46 := by rintro rfl; revert hd; decide
      unfold RF.run RF.step
      rw [if_neg h46, if_pos hd]
      split
      · rename_i st' e
        split at e
        · cases e; exact run_ok r _ true h fun _ => rfl
        · split at e
          · cases e; exact run_ok r _ true h fun _ => rfl
          · cases e; exact run_ok r _ true h fun _ => rfl
      · rename_i e
        split at e
        · cases e
        · split at e <;> cases e
    · rw [if_neg hd] at h
      by_cases h46 : c = 46
      · rw [if_pos h46] at h
        simp only [Bool.and_eq_true, Bool.not_eq_true'] at h
        obtain ⟨⟨h1, h2⟩, h3⟩ := h
        unfold RF.run RF.step
        rw [if_pos h46, h1]
        simp only [Bool.false_eq_true, if_false]
        have := run_ok r { st with dot := true, dp := st.nd } true
        have h4 := okM_saw r h3
        exact this h4 fun _ => hs h2
      · rw [if_neg h46] at h
        simp only [Bool.and_eq_true, Bool.or_eq_true, decide_eq_true_eq] at h
        obtain ⟨h1, h2, h3⟩ := h
        unfold RF.run RF.step
        rw [if_neg h46, if_neg hd]
        exact ⟨hs h2, .inr ⟨c, r, rfl, h1, h3⟩⟩
theorem exD_lt : ∀ (l : List UInt8) (e : Nat), l.all isDig = true → e < 100010 → exD l e < 100010
  | [], e, _, h => h
  | c :: r, e, hl, h => by
    simp only [List.all_cons, Bool.and_eq_true] at hl
    obtain ⟨hc, hr⟩ := hl
    simp only [isDig, Bool.and_eq_true, decide_eq_true_eq] at hc
    unfold exD
    refine exD_lt r _ hr ?_
    split
    · omega
    · exact h
end PF
/- A quotient's greatness; the short way of ParseFloat over a table of powers. No condition. -/
namespace PF
open Ieee
def High (x B : Nat) : Prop := B * 4503599627370496 ≤ x % 9223372036854775808
theorem read_high {x E B : Nat} (h : Low x E) (hE : E ≤ 2046) (hb : High x B) (hB : 1 ≤ B) : ∃ s m i, double.read x = .number s m i ∧ 4503599627370496 ≤ m ∧ (B : Int) ≤ i + 1075 := by
  have hs : double.signWeight = 9223372036854775808 := rfl
  have hl : double.leastPlace = -1074 := by decide
  have hbi : double.binade = 4503599627370496 := rfl
  have hi : double.infRung = 9218868437227405312 := rfl
  unfold Low at h
  unfold High at hb
  unfold Format.read
  simp only [hs, hl, hbi, hi]
  rw [if_neg (by omega), if_pos (by omega)]
  refine ⟨_, _, _, rfl, by omega, ?_⟩
  have : B ≤ x % 9223372036854775808 / 4503599627370496 := by omega
  omega
theorem quot_log {m n k : Nat} (hn : n ≠ 0) (b : Bool) (h : 2 * ((m <<< k) / n) + b.toNat ≠ 0) : (2 * ((m <<< k) / n) + b.toNat).log2 + n.log2 ≤ m.log2 + 1 + k ∨ m.log2 + 1 + k < n.log2 := by
  by_cases hc : m.log2 + 1 + k < n.log2
  · exact .inr hc
  left
  have hb : b.toNat ≤ 1 := by cases b <;> decide
  have h1 : m < 2 ^ (m.log2 + 1) := Nat.lt_log2_self
  have h2 : 2 ^ n.log2 ≤ n := Nat.log2_self_le hn
  have h3 : (m <<< k) / n < 2 ^ (m.log2 + 1 + k - n.log2) := by
    rw [Nat.shiftLeft_eq, Nat.div_lt_iff_lt_mul (by omega)]
    refine Nat.lt_of_lt_of_le (m := 2 ^ (m.log2 + 1) * 2 ^ k) (Nat.mul_lt_mul_of_pos_right h1 (Nat.two_pow_pos _)) ?_
    rw [← Nat.pow_add]
    refine Nat.le_trans ?_ (Nat.mul_le_mul_left _ h2)
    rw [← Nat.pow_add]
    exact Nat.pow_le_pow_right (by omega) (by omega)
  have h4 : 2 * ((m <<< k) / n) + b.toNat < 2 ^ (m.log2 + 1 + k - n.log2 + 1) := by
    rw [Nat.pow_succ]
    omega
  have := log2_lt h4 h
  omega
theorem div_low {x y A B C E : Nat} (hx : Low x A) (hy : Low y C) (hyb : High y B) (hA : A ≤ 2046) (hC : C ≤ 2046) (hB : 1 ≤ B) (hE : 2 ≤ E) (hE2 : E ≤ 2046) (h : max A 1 + 1025 ≤ E + B) : ∃ r, double.div x y = some r ∧ Low r E := by
  obtain ⟨s, m, i, e1, m1, i1, i2⟩ := read_low hx hA
  obtain ⟨t, n, j, e2, n1, j1⟩ := read_high hy hC hyb hB
  have hn0 : n ≠ 0 := by omega
  have e3 : (Datum.number s m i).quotient (double.fractionBits + 2) (.number t n j) = some (.number (s ^^ t) (2 * ((m <<< (double.fractionBits + 2 + n.log2 - m.log2)) / n) + ((m <<< (double.fractionBits + 2 + n.log2 - m.log2)) % n != 0).toNat) (i - j - ((double.fractionBits + 2 + n.log2 - m.log2 : Nat) : Int) - 1)) := by
    simp only [Datum.quotient]
    rw [if_neg hn0]
  refine ⟨_, by unfold Format.div; rw [e1, e2, e3]; rfl, nearest_low _ _ _ _ hE hE2 fun hmn => ?_⟩
  have hf : double.fractionBits = 52 := rfl
  rw [hf] at hmn ⊢
  have hl := quot_log hn0 _ hmn
  have hml : m.log2 ≤ 52 := by
    by_cases hm : m = 0
    · subst hm; decide
    · have := log2_lt m1 hm; omega
  have hnl : 52 ≤ n.log2 := (Nat.le_log2 hn0).2 (by omega)
  omega
def mulF (x y : Nat) : Nat := (double.mul x y).getD 0
def divF (x y : Nat) : Nat := (double.div x y).getD 0
end PF
/- The middle way of ParseFloat (scaling by a table of powers), in plain Lean, and what its answer is like. No condition. -/
namespace PF
def two64 : Nat := 18446744073709551616
def blen (n : Nat) : Nat := if n = 0 then 0 else n.log2 + 1
theorem blen_le {n : Nat} (h : n < 18446744073709551616) : blen n ≤ 64 := by
  unfold blen
  split
  · omega
  · rename_i hn
    have := (Nat.log2_lt hn).2 (show n < 2 ^ 64 by omega)
    omega
/-- log2 of a power of ten. -/
def lpow (p : Int) : Int := p * 108853 / 32768
def pE (d : Nat) (p : Int) : Int := min 1074 (53 - blen d - lpow p)
def pS (d : Nat) (p : Int) : Int := -(pE d p - (64 - blen d) + lpow p + 3)
theorem pS_ge (d : Nat) (p : Int) : 8 ≤ pS d p := by unfold pS pE; omega
/-- The scaled number, a table's cell at hand. -/
def usc (x : Nat) (c : Nat × Nat) (s : Nat) : Nat :=
  let hi := x * c.1 / two64
  let mid := x * c.1 % two64
  if hi / 2 ^ s * 2 ^ s = hi then
    let mid2 := x * c.2 / two64
    ((hi + two64 - (decide (mid < mid2)).toNat) % two64 / 2 ^ s) ||| (decide (1 < (mid + two64 - mid2) % two64)).toNat
  else (hi / 2 ^ s) ||| 1
def rnd (u : Nat) : Nat := (u + 1 + u / 4 % 2) / 4
/-- A mantissa and an exponent put together: the bits, is it too great? -/
def pack (m : Nat) (e : Int) : Nat × Bool :=
  if m / 4503599627370496 % 2 = 0 then (m, false)
  else if 972 ≤ e then ((m / 9223372036854775808 % 2) * 9223372036854775808 + 9218868437227405312, true)
  else (m - 4503599627370496 + (1075 + e).toNat * 4503599627370496, false)
def sgn (neg : Bool) : Nat := if neg then 9223372036854775808 else 0
/-- A number of at most 19 digits times a power of ten. -/
def par64 (T : Int → Nat × Nat) (d : Nat) (p : Int) (neg : Bool) : Nat × Bool :=
  if 64 ≤ pS d p then (sgn neg, false)
  else
    let u := usc (d * 2 ^ (64 - blen d) % two64) (T p) (pS d p).toNat
    let b := decide (36028797018963966 ≤ u)
    let v := if b then u / 2 ||| u % 2 else u
    pack (sgn neg + rnd v) (-(pE d p - (if b then 1 else 0)))
theorem or_lt {a b k : Nat} (ha : a < 2 ^ k) (hb : b < 2 ^ k) : a ||| b < 2 ^ k := Nat.or_lt_two_pow ha hb
theorem usc_lt (x s : Nat) (c : Nat × Nat) (hx : x < two64) (hc : c.1 < two64) (hs : 8 ≤ s) : usc x c s < 72057594037927936 := by
  have h56 : (72057594037927936 : Nat) = 2 ^ 56 := by decide
  have hdiv : ∀ y, y < two64 → y / 2 ^ s < 72057594037927936 := by
    intro y hy
    refine Nat.lt_of_le_of_lt (Nat.div_le_div_left (Nat.pow_le_pow_right (by omega) hs) (Nat.two_pow_pos _)) ?_
    unfold two64 at hy
    show y / 256 < _
    omega
  have hb : ∀ b : Bool, b.toNat < 2 ^ 56 := by intro b; cases b <;> decide
  have h64 : 0 < two64 := by decide
  unfold usc
  dsimp only
  split
  · rw [h56]
    exact or_lt (h56 ▸ hdiv _ (Nat.mod_lt _ h64)) (hb _)
  · rw [h56]
    refine or_lt (h56 ▸ hdiv _ ?_) (by decide)
    rw [Nat.div_lt_iff_lt_mul h64]
    exact Nat.mul_lt_mul'' hx hc
/-- The mantissa that comes of it, and that the answer is finite just if nothing is said. -/
def Inf (x : Nat) : Prop := x % 9223372036854775808 = 9218868437227405312
theorem pack_fin (neg : Bool) (r : Nat) (e : Int) (hr : r ≤ 9007199254740992) (he : -1074 ≤ e) : ((pack (sgn neg + r) e).2 = false → Fin (pack (sgn neg + r) e).1) ∧ ((pack (sgn neg + r) e).2 = true → Inf (pack (sgn neg + r) e).1) ∧ (pack (sgn neg + r) e).1 < 18446744073709551616 := by
  have hs : sgn neg = 0 ∨ sgn neg = 9223372036854775808 := by unfold sgn; split <;> simp
  unfold pack Fin Inf
  split
  · refine ⟨fun _ => ?_, fun h => (by cases h), ?_⟩
    · simp only; omega
    · simp only; omega
  · split
    · refine ⟨fun h => (by cases h), fun _ => ?_, ?_⟩
      · simp only; omega
      · simp only; omega
    · refine ⟨fun _ => ?_, fun h => (by cases h), ?_⟩
      · simp only; omega
      · simp only; omega
theorem half_or (u : Nat) (h : u < 72057594037927936) : u / 2 ||| u % 2 < 36028797018963968 := by
  have e : (36028797018963968 : Nat) = 2 ^ 55 := by decide
  rw [e]
  exact or_lt (by omega) (by omega)
theorem par64_fin (T : Int → Nat × Nat) (hT : ∀ p, (T p).1 < two64) (d : Nat) (p : Int) (neg : Bool) : ((par64 T d p neg).2 = false → Fin (par64 T d p neg).1) ∧ ((par64 T d p neg).2 = true → Inf (par64 T d p neg).1) ∧ (par64 T d p neg).1 < 18446744073709551616 := by
  unfold par64
  by_cases h : 64 ≤ pS d p
  · rw [if_pos h]
    refine ⟨fun _ => ?_, fun h => (by cases h), ?_⟩
    · unfold Fin sgn; simp only; split <;> omega
    · unfold sgn; simp only; split <;> omega
  · rw [if_neg h]
    have hu := usc_lt (d * 2 ^ (64 - blen d) % two64) (pS d p).toNat (T p) (Nat.mod_lt _ (by decide)) (hT p) (by have := pS_ge d p; omega)
    obtain ⟨u, hu'⟩ : ∃ u, usc (d * 2 ^ (64 - blen d) % two64) (T p) (pS d p).toNat = u := ⟨_, rfl⟩
    have he : -1074 ≤ -(pE d p) := by unfold pE; omega
    rw [hu'] at hu
    dsimp only
    rw [hu']
    have ho := half_or u hu
    by_cases hb : 36028797018963966 ≤ u
    · simp only [hb, decide_true, if_true]
      refine pack_fin neg _ _ ?_ (by omega)
      unfold rnd
      omega
    · simp only [hb, decide_false, if_false, Bool.false_eq_true]
      refine pack_fin neg _ _ ?_ (by omega)
      unfold rnd
      omega
end PF
/- The short way of ParseFloat: a product or a quotient of floats. No condition. -/
namespace PF
open Ieee
/-- The table of the 23 powers of ten, as floats. -/
def TabOk (T : Nat → Nat) : Prop := ∀ k, k ≤ 22 → Low (T k) 1096 ∧ High (T k) 1023 ∧ T k < 9223372036854775808
def e15 : Nat := 4831355200913801216
def ne15 : Nat := 14054727237768577024
def flt (man : Nat) (neg : Bool) : Nat := Go.floatOfInt .f64 (man : Int) + sgn neg
def gtF (x y : Nat) : Bool := double.order x y == some .gt
def ltF (x y : Nat) : Bool := double.order x y == some .lt
/-- With an exponent above nought. -/
def exU (T : Nat → Nat) (f : Nat) (p : Nat) : Option Nat :=
  let g := if 22 < p then mulF f (T (p - 22)) else f
  if gtF g e15 || ltF g ne15 then none else some (mulF g (T (min p 22)))
def exact64 (T : Nat → Nat) (man : Nat) (p : Int) (neg : Bool) : Option Nat :=
  if man / 4503599627370496 ≠ 0 then none
  else if p = 0 then some (flt man neg)
  else if 0 < p ∧ p ≤ 37 then exU T (flt man neg) p.toNat
  else if p < 0 ∧ -22 ≤ p then some (divF (flt man neg) (T (-p).toNat))
  else none
theorem ofInt_eq (man : Nat) : Go.floatOfInt .f64 (man : Int) = double.nearest false man 0 := by
  have : decide ((man : Int) < 0) = false := by simp
  show double.nearest (decide ((man : Int) < 0)) (man : Int).natAbs 0 = _
  rw [this, Int.natAbs_natCast]
theorem word_false_lt (r : Nat) (h : r ≤ 9218868437227405312) : double.word false r < 9223372036854775808 := by
  unfold Format.word
  simp only [Bool.false_eq_true, if_false]
  omega
theorem nearest_pos (mag : Nat) (place : Int) : double.nearest false mag place < 9223372036854775808 := by
  unfold Format.nearest
  split
  · exact word_false_lt _ (by omega)
  · have e : double.infRung = 9218868437227405312 := rfl
    dsimp only
    refine word_false_lt _ (Nat.le_trans (Nat.min_le_right _ _) (Nat.le_of_eq e))
theorem flt_low (man : Nat) (neg : Bool) (h : man < 18446744073709551616) : Low (flt man neg) 1087 ∧ flt man neg < 18446744073709551616 := by
  have h1 := ofNat_low false man h
  have h2 := nearest_pos man 0
  unfold flt
  rw [ofInt_eq]
  unfold sgn
  split
  · exact ⟨(neg_low h1).1, by omega⟩
  · exact ⟨h1, by omega⟩
theorem mulF_eq {x y A B E : Nat} (hx : Low x A) (hy : Low y B) (hA : A ≤ 2046) (hB : B ≤ 2046) (hE : 2 ≤ E) (hE2 : E ≤ 2046) (h : max A 1 + max B 1 ≤ E + 1021) : double.mul x y = some (mulF x y) ∧ Low (mulF x y) E ∧ mulF x y < 18446744073709551616 := by
  obtain ⟨r, h1, h2⟩ := mul_low hx hy hA hB hE hE2 h
  have h3 := double.mul_lt h1
  unfold mulF
  rw [h1]
  exact ⟨rfl, h2, h3⟩
theorem divF_eq {x y A B C E : Nat} (hx : Low x A) (hy : Low y C) (hyb : High y B) (hA : A ≤ 2046) (hC : C ≤ 2046) (hB : 1 ≤ B) (hE : 2 ≤ E) (hE2 : E ≤ 2046) (h : max A 1 + 1025 ≤ E + B) : double.div x y = some (divF x y) ∧ Low (divF x y) E ∧ divF x y < 18446744073709551616 := by
  obtain ⟨r, h1, h2⟩ := div_low hx hy hyb hA hC hB hE hE2 h
  have h3 := double.div_lt h1
  unfold divF
  rw [h1]
  exact ⟨rfl, h2, h3⟩
theorem exU_fin {T : Nat → Nat} (hT : TabOk T) {f p : Nat} (hf : Low f 1087) (hp : p ≤ 37) {r : Nat} (h : exU T f p = some r) : Fin r ∧ r < 18446744073709551616 := by
  unfold exU at h
  by_cases hp2 : 22 < p
  · have t1 := hT (p - 22) (by omega)
    have t2 := hT (min p 22) (by omega)
    have m1 := mulF_eq (E := 1170) hf t1.1 (by omega) (by omega) (by omega) (by omega) (by omega)
    have m2 := mulF_eq (E := 1400) m1.2.1 t2.1 (by omega) (by omega) (by omega) (by omega) (by omega)
    simp only [hp2, if_true] at h
    split at h
    · cases h
    · cases h
      exact ⟨m2.2.1.fin (by omega), m2.2.2⟩
  · have t2 := hT (min p 22) (by omega)
    have m2 := mulF_eq (E := 1400) hf t2.1 (by omega) (by omega) (by omega) (by omega) (by omega)
    simp only [hp2, if_false] at h
    split at h
    · cases h
    · cases h
      exact ⟨m2.2.1.fin (by omega), m2.2.2⟩
theorem exact64_fin {T : Nat → Nat} (hT : TabOk T) {man : Nat} {p : Int} {neg : Bool} {r : Nat} (h : exact64 T man p neg = some r) : Fin r ∧ r < 18446744073709551616 := by
  unfold exact64 at h
  split at h
  · cases h
  · rename_i hm
    have hf := flt_low man neg (by omega)
    split at h
    · cases h
      exact ⟨hf.1.fin (by omega), hf.2⟩
    · split at h
      · exact exU_fin hT hf.1 (by omega) h
      · split at h
        · cases h
          have t := hT (-p).toNat (by omega)
          have m := divF_eq (E := 1500) hf.1 t.1 t.2.1 (by omega) (by omega) (by omega) (by omega) (by omega) (by omega)
          exact ⟨m.2.1.fin (by omega), m.2.2⟩
        · cases h
end PF
/- Bits of words. No condition. -/
namespace PF
theorem and_pow (m k : Nat) : m &&& 2 ^ k = m / 2 ^ k % 2 * 2 ^ k := by
  apply Nat.eq_of_testBit_eq
  intro i
  rw [Nat.testBit_and, Nat.testBit_two_pow, Nat.testBit_mul_two_pow]
  by_cases h : k = i
  · subst h
    simp only [decide_true, Bool.and_true, Nat.le_refl, Bool.true_and, Nat.sub_self, Nat.testBit_zero, Nat.mod_mod]
    rw [← Nat.shiftRight_eq_div_pow]
    simp [Nat.testBit, Nat.one_and_eq_mod_two]
  · simp only [h, decide_false, Bool.and_false]
    by_cases h2 : k ≤ i
    · have : (m / 2 ^ k % 2).testBit (i - k) = false := Nat.testBit_lt_two_pow (Nat.lt_of_lt_of_le (Nat.mod_lt _ (by omega)) (by
        have : 2 ^ 1 ≤ 2 ^ (i - k) := Nat.pow_le_pow_right (by omega) (by omega)
        simpa using this))
      rw [this, Bool.and_false]
    · simp [h2]
theorem andNot52 (neg : Bool) (lo : Nat) (h : lo < 4503599627370496) : (sgn neg + (4503599627370496 + lo)) &&& 18442240474082181119 = sgn neg + lo := by
  have hl : lo < 2 ^ 52 := h
  have e0 : 4503599627370496 + lo = 4503599627370496 ||| lo := (Nat.two_pow_add_eq_or_of_lt hl 1)
  have hx : 4503599627370496 + lo < 2 ^ 63 := by have : (2 : Nat) ^ 63 = 9223372036854775808 := by decide
                                                 omega
  have hy : lo < 2 ^ 63 := by have : (2 : Nat) ^ 63 = 9223372036854775808 := by decide
                              omega
  have c1 : lo &&& 18442240474082181119 = lo := by
    have e1 : lo &&& 4503599627370495 = lo := by
      have := Nat.and_two_pow_sub_one_eq_mod lo 52
      rw [Nat.mod_eq_of_lt hl] at this
      exact this
    have e2 : 4503599627370495 &&& 18442240474082181119 = 4503599627370495 := by decide
    conv => lhs; rw [← e1]
    rw [Nat.and_assoc, e2, e1]
  have e3 : ∀ z, z < 2 ^ 63 → sgn neg + z = sgn neg ||| z := by
    intro z hz
    cases neg
    · simp [sgn]
    · exact Nat.two_pow_add_eq_or_of_lt hz 1
  rw [e3 _ hx, e0, e3 _ hy, Nat.and_or_distrib_right, Nat.and_or_distrib_right, c1]
  have e4 : sgn neg &&& 18442240474082181119 = sgn neg := by cases neg <;> decide
  have e5 : 4503599627370496 &&& 18442240474082181119 = 0 := by decide
  rw [e4, e5, Nat.zero_or]
theorem or_exp (neg : Bool) (lo x : Nat) (h : lo < 4503599627370496) (hx : x < 2048) : (sgn neg + lo) ||| x * 4503599627370496 = sgn neg + lo + x * 4503599627370496 := by
  have hl : lo < 2 ^ 52 := h
  have hp : (2 : Nat) ^ 63 = 9223372036854775808 := by decide
  have e3 : ∀ z, z < 2 ^ 63 → sgn neg + z = sgn neg ||| z := by
    intro z hz
    cases neg
    · simp [sgn]
    · exact Nat.two_pow_add_eq_or_of_lt hz 1
  rw [Nat.add_assoc, e3 lo (by omega), e3 (lo + x * 4503599627370496) (by omega), Nat.or_assoc]
  congr 1
  rw [Nat.or_comm, Nat.add_comm lo]
  have := Nat.two_pow_add_eq_or_of_lt hl x
  rw [Nat.mul_comm x]
  exact this.symm
theorem or_sgn (neg : Bool) (z : Nat) (h : z < 9223372036854775808) : sgn neg ||| z = sgn neg + z := by
  cases neg
  · simp [sgn]
  · exact (Nat.two_pow_add_eq_or_of_lt (i := 63) h 1).symm
theorem or_mod2 (u : Nat) : u ||| u % 2 = u := by
  rw [← Nat.and_one_is_mod]
  apply Nat.eq_of_testBit_eq
  intro i
  rw [Nat.testBit_or, Nat.testBit_and]
  cases u.testBit i <;> simp
end PF
/- The small functions of ParseFloat's middle way. No condition. -/
namespace Go.Proofs.YtagiddbfhlokcaaGreatDoor
open Go.RowKit
set_option maxRecDepth 100000
theorem lpow_walk (p : Int) (hp : -1000 ≤ p) (hp2 : p ≤ 1000) (w : World) : Calls Tryz.prog 240 #[.int .i64 p] w fun e w' => e = .returned (.int .i64 (PF.lpow p)) ∧ w = w' := by
  unfold PF.lpow
  go_enter Tryz.func240, Tryz.ntmps240
  go_wp2
  go_ret
  exact ⟨rfl, rfl⟩
theorem unmin53 (w : World) : Calls Tryz.prog 243 #[.int .u64 9007199254740992] w fun e w' => e = .returned (.int .u64 36028797018963966) ∧ w = w' := by
  go_enter Tryz.func243, Tryz.ntmps243
  go_wp2
  go_ret
  exact ⟨rfl, rfl⟩
theorem bool160 (b : Bool) (w : World) : Calls Tryz.prog 160 #[.bool b] w fun e w' => e = .returned (.int .i64 (b.toNat : Int)) ∧ w = w' := by
  cases b <;>
  · go_enter Tryz.func160, Tryz.ntmps160
    go_wp2
    go_ret
    exact ⟨rfl, rfl⟩
theorem bool213 (b : Bool) (w : World) : Calls Tryz.prog 213 #[.bool b] w fun e w' => e = .returned (.int .u64 (b.toNat : Int)) ∧ w = w' := by
  cases b <;>
  · go_enter Tryz.func213, Tryz.ntmps213
    go_wp2
    go_ret
    exact ⟨rfl, rfl⟩
theorem round245 (u : Nat) (hu : u < 72057594037927936) (w : World) : Calls Tryz.prog 245 #[.int .u64 (u : Int)] w fun e w' => e = .returned (.int .u64 (PF.rnd u : Int)) ∧ w = w' := by
  have b1 : ∀ n : Nat, n < 18446744073709551616 → bits BinOp.and IntKind.u64 (n : Int) 1 = ((n % 2 : Nat) : Int) := by
    intro n hn
    have h := bits_and_u64_nat n 1 hn (by omega)
    rw [Nat.and_one_is_mod] at h
    exact h
  have e1 : (u : Int) / 4 = ((u / 4 : Nat) : Int) := by omega
  have b2 := b1 (u / 4) (by omega)
  rw [← e1] at b2
  clear b1 e1
  unfold PF.rnd
  go_enter Tryz.func245, Tryz.ntmps245
  go_wp2
  go_ret
  refine ⟨?_, rfl⟩
  congr 2
end Go.Proofs.YtagiddbfhlokcaaGreatDoor
/- sync.Once walked (one goroutine): Lock, the two deferred calls, doSlow, Do. Conditions: the Once's cells not frozen; what the function that is called keeps. -/
namespace Go.Proofs.YtagiddbfhlokcaaGreatDoor.Rp
set_option maxRecDepth 100000
theorem disable (w : World) : (callFunc 262 #[]).run Tryz.prog w = .ok (.value (.tuple #[])) w := run_call_mark0 Tryz.func262 (by kernel_rfl) (by kernel_rfl) (by kernel_rfl) .disable (by kernel_rfl) w
theorem enable (w : World) : (callFunc 264 #[]).run Tryz.prog w = .ok (.value (.tuple #[])) w := run_call_mark0 Tryz.func264 (by kernel_rfl) (by kernel_rfl) (by kernel_rfl) .enable (by kernel_rfl) w
theorem acquire (a : Addr) (w : World) : (callFunc 265 #[.pointer (some a)]).run Tryz.prog w = .ok (.value (.tuple #[])) w := run_call_marked Tryz.func265 (by kernel_rfl) (by kernel_rfl) (by kernel_rfl) .acquire (by kernel_rfl) a w
theorem releaseMerge (a : Addr) (w : World) : (callFunc 267 #[.pointer (some a)]).run Tryz.prog w = .ok (.value (.tuple #[])) w := run_call_marked Tryz.func267 (by kernel_rfl) (by kernel_rfl) (by kernel_rfl) .releaseMerge (by kernel_rfl) a w
theorem store_deferred (a : Addr) (x : Value) (u : FrameMode) (w : World) (hc : w.cell? a = some x) (hz : w.frozen? a = false) :
    CallsD Tryz.prog 191 #[.pointer (some a), .bool true] u w fun e u' w' => u' = u ∧ (e = .returned (.tuple #[]) ∧ w' = w.drew.setCell a (.int .u32 1)) := by
  have hc' : w.drew.cell? a = some x := by go_simp
  have hz' : w.drew.frozen? a = false := by go_simp
  have hst := run_call_store (P := Tryz.prog) Tryz.func232 (by kernel_rfl) (by kernel_rfl) (by kernel_rfl) (by kernel_rfl) (k := .u32) (y := 1) hc' hz'
  go_enter_d Tryz.func191, Tryz.ntmps191
  go_wp2
  go_region_calls
  all_goals (go_end0; exact ⟨rfl, rfl⟩)
theorem unlock_deferred (a : Addr) (u : FrameMode) (w : World) (hc : w.cell? a = some (.int .i32 1)) (hz : w.frozen? a = false) :
    CallsD Tryz.prog 190 #[.pointer (some a)] u w fun e u' w' => u' = u ∧ (e = .returned (.tuple #[]) ∧ w' = w.setCell a (.int .i32 0)) := by
  have hd := disable
  have he := enable
  have hr := releaseMerge
  have hadd := run_call_add (P := Tryz.prog) Tryz.func268 (by kernel_rfl) (by kernel_rfl) (by kernel_rfl) .i32 (by kernel_rfl) (y := -1) (s := 0) hc hz (by simp [go_sem]; rfl)
  have hcv := run_convert_to_unsafe (P := Tryz.prog) (src := 323) (dst := 196) Tryz.underlying323 Tryz.underlying196 (by kernel_rfl) hc
  go_enter_d Tryz.func190, Tryz.ntmps190
  go_wp2
  go_end0
  go_wp2
  go_end0
  exact ⟨rfl, rfl⟩
theorem lock_free (a : Addr) (w : World) (hc : w.cell? a = some (.int .i32 0)) (hz : w.frozen? a = false) :
    Calls Tryz.prog 189 #[.pointer (some a)] w fun e w' => e = .returned (.tuple #[]) ∧ w' = w.setCell a (.int .i32 1) := by
  have hd := disable
  have he := enable
  have ha := acquire
  have hcas := run_call_cas_hit (P := Tryz.prog) Tryz.func263 (by kernel_rfl) (by kernel_rfl) (by kernel_rfl) .i32 (by kernel_rfl) (y := 1) hc hz
  have hc' : (w.setCell a (.int .i32 1)).cell? a = some (.int .i32 1) := World.cell?_setCell_same w a _ hc
  have hcv := run_convert_to_unsafe (P := Tryz.prog) (src := 323) (dst := 196) Tryz.underlying323 Tryz.underlying196 (by kernel_rfl) hc'
  go_enter Tryz.func189, Tryz.ntmps189
  go_wp2
  first | go_end0 | (simp only [Exit.inBlock, Exit.then]; refine bodyPost_ret (results_none rfl _ _ _) rfl ?_) | refine bodyPost_ret (results_none rfl _ _ _) rfl ?_
  go_wp2
  go_end0
  exact ⟨rfl, rfl⟩
theorem slow (b off : Nat) (rp : Addr) (w : World) (Q : World → Prop)
    (h0 : w.cell? ⟨b, off, none⟩ = some (.int .u32 0)) (h1 : w.cell? ⟨b, off + 1, none⟩ = some (.int .i32 0))
    (f1 : w.frozen? ⟨b, off + 1, none⟩ = false)
    (hB : Calls Tryz.prog 106 #[.pointer (some rp)] (w.setCell ⟨b, off + 1, none⟩ (.int .i32 1)) fun e w' => e = .returned (.tuple #[]) ∧
      w'.cell? ⟨b, off, none⟩ = some (.int .u32 0) ∧ w'.cell? ⟨b, off + 1, none⟩ = some (.int .i32 1) ∧ w'.frozen? ⟨b, off, none⟩ = false ∧ w'.frozen? ⟨b, off + 1, none⟩ = false ∧
      Q ((w'.drew.setCell ⟨b, off, none⟩ (.int .u32 1)).setCell ⟨b, off + 1, none⟩ (.int .i32 0))) :
    Calls Tryz.prog 154 #[.pointer (some ⟨b, off, none⟩), .func (.func 106) #[.pointer (some rp)] #[]] w fun e w' => e = .returned (.tuple #[]) ∧ Q w' := by
  have hl := run_call_load (P := Tryz.prog) Tryz.func188 (by kernel_rfl) (by kernel_rfl) (by kernel_rfl) .u32 (by kernel_rfl) (w := w.setCell ⟨b, off + 1, none⟩ (.int .i32 1)) (a := ⟨b, off, none⟩) (x := 0) ((World.cell?_setCell_other _ ⟨b, off + 1, none⟩ ⟨b, off, none⟩ _ (by simp)).trans h0)
  have hnot : ∀ (x : Bool) (w : World), (Op.unary .not (.bool x)).run Tryz.prog w = .ok (.bool (!x)) w := fun _ _ => rfl
  go_enter_defers Tryz.func154, Tryz.ntmps154
  go_wp2_with (first | (go_at_call 189; refine (lock_free ⟨b, off + 1, none⟩ _ (by go_simp) (by go_simp)).mono ?_; rintro e w' ⟨rfl, rfl⟩) | (go_at_call 106; refine hB.mono ?_; rintro e w' ⟨rfl, c0, c1, g0, g1, hQ⟩) | (go_at_call 153; go_in))
  refine leaves_cons (f := 191) (args := #[.pointer (some ⟨b, off, none⟩), .bool true]) (by simp) (by simp [go_sem]) ?_
  refine (store_deferred ⟨b, off, none⟩ (.int .u32 0) .returning _ c0 g0).mono ?_
  rintro e u' w'' ⟨rfl, rfl, rfl⟩
  refine leaves_cons (f := 190) (args := #[.pointer (some ⟨b, off + 1, none⟩)]) (by simp [settle]) (by simp [go_sem]) ?_
  refine (unlock_deferred ⟨b, off + 1, none⟩ _ _ ?_ (by simp [g1])).mono ?_
  · refine (World.cell?_setCell_other _ ⟨b, off, none⟩ ⟨b, off + 1, none⟩ _ (by simp)).trans ?_
    rw [World.cell?_drew]
    exact c1
  rintro e u' w'' ⟨rfl, rfl, rfl⟩
  simp [Leaves, settle, results, Tryz.results154]
  exact hQ
theorem once (b off : Nat) (rp : Addr) (w : World) (Q : World → Prop)
    (h0 : w.cell? ⟨b, off, none⟩ = some (.int .u32 0)) (h1 : w.cell? ⟨b, off + 1, none⟩ = some (.int .i32 0))
    (f1 : w.frozen? ⟨b, off + 1, none⟩ = false)
    (hB : Calls Tryz.prog 106 #[.pointer (some rp)] (w.setCell ⟨b, off + 1, none⟩ (.int .i32 1)) fun e w' => e = .returned (.tuple #[]) ∧
      w'.cell? ⟨b, off, none⟩ = some (.int .u32 0) ∧ w'.cell? ⟨b, off + 1, none⟩ = some (.int .i32 1) ∧ w'.frozen? ⟨b, off, none⟩ = false ∧ w'.frozen? ⟨b, off + 1, none⟩ = false ∧
      Q ((w'.drew.setCell ⟨b, off, none⟩ (.int .u32 1)).setCell ⟨b, off + 1, none⟩ (.int .i32 0))) :
    Calls Tryz.prog 105 #[.pointer (some ⟨b, off, none⟩), .func (.func 106) #[.pointer (some rp)] #[]] w fun e w' => e = .returned (.tuple #[]) ∧ Q w' := by
  have hl := run_call_load (P := Tryz.prog) Tryz.func188 (by kernel_rfl) (by kernel_rfl) (by kernel_rfl) .u32 (by kernel_rfl) h0
  have hnot : ∀ (x : Bool) (w : World), (Op.unary .not (.bool x)).run Tryz.prog w = .ok (.bool (!x)) w := fun _ _ => rfl
  go_enter Tryz.func105, Tryz.ntmps105
  go_wp2_with (first | (go_at_call 154; refine (slow b off rp _ Q h0 h1 f1 hB).mono ?_; rintro e w' ⟨rfl, hQ⟩) | (go_at_call 153; go_in))
  go_end0
  exact ⟨rfl, hQ⟩
end Go.Proofs.YtagiddbfhlokcaaGreatDoor.Rp
