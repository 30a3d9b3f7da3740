/- What the document takes for a formed value is what the program takes for one. Conditions: a value's bits and length. -/
import Derived.Test.YtfhdaihladgchaaW
import Derived.Laws.FloatArith
import Derived.Deep.Draws
namespace Go.Proofs.Ytfhdaihladgchaa
open Ieee Go.RowKit
/-- r is a NaN. -/
def isN (r : Nat) : Prop := double.read r = .nan (double.read r).neg (match double.read r with | .nan _ f => f | _ => 0)
theorem isN_of {r : Nat} {s : Bool} {f : Nat} (h : double.read r = .nan s f) : isN r := by unfold isN; rw [h]; rfl
theorem isN_iff {r : Nat} : isN r ↔ ∃ s f, double.read r = .nan s f := ⟨fun h => ⟨_, _, h⟩, fun ⟨_, _, h⟩ => isN_of h⟩
def subR (x y r : Nat) : Prop := match double.sub x y with
  | some s => r = s
  | none => isN r
theorem cut_nan (x y t : Nat) : isN ((Question.nanBits .f64 x y).cut t) := by
  have e : (Question.nanBits .f64 x y).cut t = (t % 2) * 9223372036854775808 + 9218868437227405312 + 1 + (t / 2) % 4503599627370495 := rfl
  rw [e]
  have hsw : double.signWeight = 9223372036854775808 := rfl
  have hb : double.binade = 4503599627370496 := rfl
  have hi : double.infRung = 9218868437227405312 := rfl
  refine isN_of (s := ((t % 2) * 9223372036854775808 + 9218868437227405312 + 1 + (t / 2) % 4503599627370495) / 9223372036854775808 % 2 == 1) (f := (t / 2) % 4503599627370495 + 1) ?_
  unfold Format.read
  rw [hsw, hb, hi]
  have hm : ((t % 2) * 9223372036854775808 + 9218868437227405312 + 1 + (t / 2) % 4503599627370495) % 9223372036854775808 = 9218868437227405312 + 1 + (t / 2) % 4503599627370495 := by omega
  rw [hm]
  dsimp only
  rw [if_neg (by omega), if_neg (by omega), if_neg (by omega)]
  have hz : 9218868437227405312 + 1 + (t / 2) % 4503599627370495 - 9218868437227405312 = (t / 2) % 4503599627370495 + 1 := by omega
  rw [hz]
theorem run_fsub (P : Program) (w : World) (t : TypeId) (x y : Nat) : ∃ r n, subR x y r ∧ (binOp .sub t (.float .f64 x) (.float .f64 y)).run P w = .ok (.float .f64 r) (w.drewN n) := by
  unfold subR
  cases h : double.sub x y with
  | some s => exact ⟨s, 0, rfl, run_float_arith w .sub t .f64 x y s h⟩
  | none =>
    refine ⟨(Question.nanBits .f64 x y).cut (w.tape w.drawn (.nanBits .f64 x y)), 1, cut_nan _ _ _, ?_⟩
    have h' : FloatKind.f64.format.sub x y = none := h
    simp [binOp, Op.floatArith, h', Question.forced]
    rfl
theorem order_self {d : Datum} (h : d.isNaN = false) : d.order d = some .eq := by
  cases d with
  | nan => simp [Datum.isNaN] at h
  | infinity s => cases s <;> rfl
  | number s m i => simp [Datum.order]
theorem read_low (x : Nat) : double.read (x % 2 ^ 63) = match double.read x with | .number _ m i => .number false m i | .infinity _ => .infinity false | .nan _ f => .nan false f := by
  have hsw : double.signWeight = 2 ^ 63 := rfl
  unfold Format.read
  rw [hsw, Nat.mod_mod, Nat.div_eq_of_lt (Nat.mod_lt _ (by decide))]
  dsimp only
  split
  · rfl
  · split
    · rfl
    · split <;> rfl
theorem read_max : double.read 9218868437227405311 = .number false 9007199254740991 971 := by kernel_rfl
theorem num_small {x : Nat} {s : Bool} {m : Nat} {i : Int} (h : double.read x = .number s m i) : Datum.order (.number false m i) (.number false 9007199254740991 971) ≠ some .gt := by
  have hb : double.binade = 4503599627370496 := rfl
  have hi : double.infRung = 9218868437227405312 := rfl
  have hl : double.leastPlace = -1074 := rfl
  have key : m ≤ 9007199254740991 ∧ i ≤ 971 := by
    unfold Format.read at h
    rw [hb, hi, hl] at h
    dsimp only at h
    generalize x % double.signWeight = rung at h
    split at h
    · injection h with h1 h2 h3
      omega
    · split at h
      · injection h with h1 h2 h3
        omega
      · split at h <;> cases h
  obtain ⟨h1, h2⟩ := key
  have hmin : min i 971 = i := by omega
  unfold Datum.order
  simp only [hmin, Int.sub_self]
  intro hc
  have hc' := Option.some.inj hc
  replace hc' := Int.compare_eq_gt.1 hc'
  simp only [signed, Bool.false_eq_true, if_false, Int.toNat_zero, Nat.shiftLeft_eq, Nat.pow_zero, Nat.mul_one] at hc'
  have h3 : 9007199254740991 ≤ 9007199254740991 * 2 ^ (971 - i).toNat := Nat.le_mul_of_pos_right _ (Nat.pow_pos (by decide))
  exact Nat.not_lt_of_le (Nat.le_trans h1 h3) (Int.ofNat_lt.1 hc')
/-- The three kinds of a float. -/
theorem kinds (x : Nat) : (nanB x = true) ∨ (nanB x = false ∧ infB x = true ∧ ∀ r, subR x x r → Ieee.double.order r 0 ≠ some .eq) ∨ (nanB x = false ∧ infB x = false ∧ ∀ r, subR x x r → Ieee.double.order r 0 = some .eq) := by
  cases h : double.read x with
  | nan s f =>
    refine .inl ?_
    unfold nanB Format.order
    rw [h]; rfl
  | infinity s =>
    refine .inr (.inl ⟨?_, ?_, fun r hr => ?_⟩)
    · unfold nanB Format.order
      rw [h, order_self rfl]; rfl
    · unfold infB Format.order
      rw [read_low, h, read_max]; rfl
    · have hs : double.sub x x = none := by
        unfold Format.sub
        rw [h]
        cases s <;> rfl
      unfold subR at hr
      rw [hs] at hr
      obtain ⟨s', f', hr'⟩ := isN_iff.1 hr
      unfold Format.order
      rw [hr']
      intro hc; cases hc
  | number s m i =>
    refine .inr (.inr ⟨?_, ?_, fun r hr => ?_⟩)
    · unfold nanB Format.order
      rw [h, order_self rfl]; rfl
    · unfold infB Format.order
      rw [read_low, h, read_max]
      have := num_small h
      revert this
      cases Datum.order (.number false m i) (.number false 9007199254740991 971) with
      | none => intro _; rfl
      | some o => cases o <;> intro hc <;> first | rfl | exact absurd rfl hc
    · have hs : double.sub x x = some 0 := by
        unfold Format.sub
        rw [h]
        have hz : ∀ k : Nat, signed s m k + signed (!s) m k = 0 := fun k => by cases s <;> simp [signed] <;> omega
        simp only [Datum.opposite, Datum.sum, hz, Int.sub_self, Option.map_some]
        cases s <;> rfl
      unfold subR at hr
      rw [hs] at hr
      have hr0 : r = 0 := hr
      rw [hr0]
      show (double.order 0 0) = some .eq
      kernel_rfl
set_option maxRecDepth 100000 in
theorem refFormed (k b : Int) (s : ByteArray) (w : World) (hb : 0 ≤ b ∧ b < 2 ^ 64) (hs : s.size ≤ maxLen) : Calls Try.prog 45 #[.agg #[.int .i64 k, .int .u64 b, .string s]] w fun e w' => e = .returned (.bool (formedB k b s)) ∧ Below w.heap.size w w' := by
  have h37 := fun w => run37 b w
  have HB := Lib.hid hb
  unfold maxLen at hs
  have hcase : (∃ _ : s.toList.isEmpty = true, s.toList = []) ∨ (∃ _ : s.toList.isEmpty = false, s.toList ≠ []) := by
    cases h : s.toList with
    | nil => exact .inl ⟨rfl, rfl⟩
    | cons x r => exact .inr ⟨rfl, by simp⟩
  clear hb
  by_cases h1 : k = 1
  · subst h1
    rcases hcase with ⟨he, he2⟩ | ⟨he, he2⟩
    · have HE := Lib.hid he
      rcases kinds b.toNat with hk | ⟨hk, hk2, hk3⟩ | ⟨hk, hk2, hk3⟩
      · have HN := Lib.hid hk
        have hq : (FloatKind.f64.format.order b.toNat b.toNat == some Ordering.eq) = false := by
          show (Ieee.double.order b.toNat b.toNat == some .eq) = false
          simpa [nanB] using hk
        clear hk
        go_enter Try.func45, Try.ntmps45
        go_wp2_with fail
        go_ret
        exact ⟨ret_bool (by simp [formedB, HN.out]), below_box _ _⟩
      · have HN := Lib.hid hk
        have HI := Lib.hid hk2
        have hq : (FloatKind.f64.format.order b.toNat b.toNat == some Ordering.eq) = true := by
          show (Ieee.double.order b.toNat b.toNat == some .eq) = true
          simpa [nanB] using hk
        obtain ⟨r, n, hr, hrun⟩ := run_fsub Try.prog (w.alloc (.cells #[.int .i64 1, .int .u64 b, .string s] 31)) 81 b.toNat b.toNat
        have hq2 : (FloatKind.f64.format.order r 0 == some Ordering.eq) = false := by
          show (Ieee.double.order r 0 == some .eq) = false
          simpa using hk3 r hr
        clear hk hk2 hk3 hr
        go_enter Try.func45, Try.ntmps45
        go_wp2_with fail
        go_ret
        exact ⟨ret_bool (by simp [formedB, HN.out, HI.out, HE.out]), below_drewN (below_box _ _) _⟩
      · have HN := Lib.hid hk
        have HI := Lib.hid hk2
        have hq : (FloatKind.f64.format.order b.toNat b.toNat == some Ordering.eq) = true := by
          show (Ieee.double.order b.toNat b.toNat == some .eq) = true
          simpa [nanB] using hk
        obtain ⟨r, n, hr, hrun⟩ := run_fsub Try.prog (w.alloc (.cells #[.int .i64 1, .int .u64 b, .string s] 31)) 81 b.toNat b.toNat
        have hq2 : (FloatKind.f64.format.order r 0 == some Ordering.eq) = true := by
          show (Ieee.double.order r 0 == some .eq) = true
          simpa using hk3 r hr
        clear hk hk2 hk3 hr
        go_enter Try.func45, Try.ntmps45
        go_wp2_with fail
        go_ret
        exact ⟨ret_bool (by simp [formedB, HN.out, HI.out, HE.out]), below_drewN (below_box _ _) _⟩
    · have HE := Lib.hid he
      go_enter Try.func45, Try.ntmps45
      go_wp2_with fail
      go_ret
      exact ⟨ret_bool (by simp [formedB, HE.out]), below_box _ _⟩
  by_cases h2 : k = 2
  · subst h2
    clear h1
    rcases hcase with ⟨he, he2⟩ | ⟨he, he2⟩
    all_goals
      have HE := Lib.hid he
      go_enter Try.func45, Try.ntmps45
      go_wp2_with fail
      go_ret
      exact ⟨ret_bool (by simp [formedB, HE.out]), below_box _ _⟩
  by_cases h3 : k = 3
  · subst h3
    clear h1 h2
    rcases hcase with ⟨he, he2⟩ | ⟨he, he2⟩
    · have HE := Lib.hid he
      obtain ⟨f, hf⟩ : ∃ f, decide (b ≤ 1) = f := ⟨_, rfl⟩
      have HFI := Lib.hid (show decide (b < 2) = f by rw [← hf, decide_eq_decide]; omega)
      go_enter Try.func45, Try.ntmps45
      go_wp2_with fail
      go_ret
      exact ⟨ret_bool (by simp [formedB, HE.out, HFI.out]), below_box _ _⟩
    · have HE := Lib.hid he
      go_enter Try.func45, Try.ntmps45
      go_wp2_with fail
      go_ret
      exact ⟨ret_bool (by simp [formedB, HE.out]), below_box _ _⟩
  by_cases h4 : k = 4
  · subst h4
    clear h1 h2 h3 hcase
    by_cases hb0 : b = 0
    · subst hb0
      have hd : decide ((s.size : Int) ≤ 65536) = decide (s.size ≤ 65536) := by rw [decide_eq_decide]; omega
      go_enter Try.func45, Try.ntmps45
      go_wp2_with fail
      go_ret
      exact ⟨ret_bool (by simp [formedB]), below_box _ _⟩
    · have hbb : (b == 0) = false := by simp [hb0]
      have HB0 := Lib.hid hb0
      clear hb0
      go_enter Try.func45, Try.ntmps45
      go_wp2_with fail
      go_ret
      exact ⟨ret_bool (by simp [formedB, HB0.out]), below_box _ _⟩
  · have b1 : (k == 1) = false := by simp [h1]
    have b2 : (k == 2) = false := by simp [h2]
    have b3 : (k == 3) = false := by simp [h3]
    have b4 : (k == 4) = false := by simp [h4]
    have H : Hid (formedB k b s = false) := Lib.hid (by simp [formedB, h1, h2, h3, h4])
    clear h1 h2 h3 h4 hcase
    go_enter Try.func45, Try.ntmps45
    go_wp2_with fail
    go_ret
    exact ⟨ret_bool (by rw [H.out]), below_box _ _⟩
end Go.Proofs.Ytfhdaihladgchaa
