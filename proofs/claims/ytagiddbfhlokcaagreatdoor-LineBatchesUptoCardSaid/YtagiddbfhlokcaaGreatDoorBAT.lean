/- Whether a value is formed, by the program and by the reference. Condition: the bits are 64. -/
import Derived.Test.YtagiddbfhlokcaaGreatDoorBAQ
import Derived.Test.YtagiddbfhlokcaaGreatDoorBAS
namespace PF
open Ieee
def Nan (x : Nat) : Prop := 9218868437227405312 < x % 9223372036854775808
theorem sorts (x : Nat) : Fin x ∨ Inf x ∨ Nan x := by unfold Fin Inf Nan; omega
theorem read_fin' {x : Nat} (h : Fin x) : ∃ s m i, double.read x = .number s m i ∧ m < 9007199254740992 ∧ -1074 ≤ i ∧ i ≤ 971 := by
  have hlow : Low x 2046 := by unfold Low; unfold Fin at h; omega
  obtain ⟨s, m, i, h1, h2, h3, h4⟩ := read_low hlow (Nat.le_refl _)
  exact ⟨s, m, i, h1, by omega, h3, by omega⟩
theorem order_fin {x : Nat} (h : Fin x) : double.order x x = some .eq := by
  obtain ⟨s, m, i, h1, _, _, _⟩ := read_fin' h
  unfold Format.order Datum.order
  rw [h1]
  simp
theorem read_inf {x : Nat} (h : Inf x) : ∃ s, double.read x = .infinity s := by
  have hb : double.binade = 4503599627370496 := rfl
  have hi : double.infRung = 9218868437227405312 := rfl
  have hs : double.signWeight = 9223372036854775808 := rfl
  unfold Inf at h
  unfold Format.read
  simp only [hs, hb, hi]
  rw [if_neg (by omega), if_neg (by omega), if_pos h]
  exact ⟨_, rfl⟩
theorem read_nan {x : Nat} (h : Nan x) : ∃ s t, double.read x = .nan s t := by
  have hb : double.binade = 4503599627370496 := rfl
  have hi : double.infRung = 9218868437227405312 := rfl
  have hs : double.signWeight = 9223372036854775808 := rfl
  unfold Nan at h
  unfold Format.read
  simp only [hs, hb, hi]
  rw [if_neg (by omega), if_neg (by omega), if_neg (by omega)]
  exact ⟨_, _, rfl⟩
theorem order_inf {x : Nat} (h : Inf x) : double.order x x = some .eq := by
  obtain ⟨s, h1⟩ := read_inf h
  unfold Format.order Datum.order
  rw [h1]
  simp
theorem order_nan {x : Nat} (h : Nan x) : double.order x x = none := by
  obtain ⟨s, t, h1⟩ := read_nan h
  unfold Format.order Datum.order
  rw [h1]
theorem read_max : double.read 9218868437227405311 = .number false 9007199254740991 971 := by decide +kernel
theorem read_pos {x : Nat} (h : x < 9218868437227405312) : ∃ m i, double.read x = .number false m i ∧ m < 9007199254740992 ∧ -1074 ≤ i ∧ i ≤ 971 := by
  obtain ⟨s, m, i, h1, h2, h3, h4⟩ := read_fin' (x := x) (by unfold Fin; omega)
  have hs : double.signWeight = 9223372036854775808 := rfl
  have hb : double.binade = 4503599627370496 := rfl
  have hi : double.infRung = 9218868437227405312 := rfl
  have hf : s = false := by
    unfold Format.read at h1
    simp only [hs, hb, hi] at h1
    split at h1
    · injection h1 with h1 _ _
      rw [← h1]
      simp
      omega
    · split at h1
      · injection h1 with h1 _ _
        rw [← h1]
        simp
        omega
      · split at h1 <;> cases h1
  subst hf
  exact ⟨m, i, h1, h2, h3, h4⟩
theorem max_fin {x : Nat} (h : Fin x) : (double.order (x % 9223372036854775808) 9218868437227405311 == some .gt) = false := by
  obtain ⟨m, i, h1, h2, h3, h4⟩ := read_pos (x := x % 9223372036854775808) h
  unfold Format.order Datum.order
  rw [h1, read_max]
  have hmin : min i 971 = i := Int.min_eq_left h4
  simp only [hmin, Int.sub_self]
  have h5 : signed false m (0 : Int).toNat ≤ signed false 9007199254740991 (971 - i).toNat := by
    unfold signed
    simp only [Bool.false_eq_true, if_false]
    have : m ≤ 9007199254740991 <<< (971 - i).toNat := by
      rw [Nat.shiftLeft_eq]
      have := Nat.pow_pos (n := (971 - i).toNat) (show 0 < 2 by omega)
      have h6 : 9007199254740991 * 1 ≤ 9007199254740991 * 2 ^ (971 - i).toNat := Nat.mul_le_mul_left _ this
      omega
    show ((m <<< 0 : Nat) : Int) ≤ ((9007199254740991 <<< (971 - i).toNat : Nat) : Int)
    rw [Nat.shiftLeft_zero]
    exact Int.ofNat_le.2 this
  rw [beq_eq_false_iff_ne]
  intro h
  injection h with h
  rw [Int.compare_eq_gt] at h
  omega
theorem max_inf {x : Nat} (h : Inf x) : (double.order (x % 9223372036854775808) 9218868437227405311 == some .gt) = true := by
  unfold Inf at h
  rw [h]
  decide +kernel
end PF
namespace Go.Proofs.YtagiddbfhlokcaaGreatDoor.Ser
open Go.RowKit Go.Sort
set_option maxRecDepth 100000
theorem run66 (n : Nat) (w : World) : (callFunc 66 #[.int .u64 (n : Int)]).run Tryz.prog w = .ok (.value (.float .f64 n)) w := by
  rw [run_callFunc_extern Tryz.func66 (by kernel_rfl) (by kernel_rfl) (by kernel_rfl) (e := Extern.MathFloatBits.float64frombits) (by kernel_rfl)]
  rfl
theorem abs147 (x : Nat) (hx : x < 18446744073709551616) (w : World) : Calls Tryz.prog 147 #[.float .f64 x] w fun e w' => e = .returned (.float .f64 (x % 9223372036854775808)) ∧ w = w' := by
  have h7 := run55 x
  have h11 := run66 (x % 9223372036854775808)
  have b1 : bits BinOp.andNot IntKind.u64 (x : Int) 9223372036854775808 = ((x % 9223372036854775808 : Nat) : Int) := by
    have h := u64_andNot_nat x 9223372036854775808 hx (by omega)
    have e : (18446744073709551615 - 9223372036854775808 : Nat) = 2 ^ 63 - 1 := by decide
    rw [e, Nat.and_two_pow_sub_one_eq_mod] at h
    exact h
  obtain ⟨y, hy⟩ : ∃ y, x % 9223372036854775808 = y := ⟨_, rfl⟩
  rw [hy] at h11 b1 ⊢
  clear hy
  go_enter Tryz.func147, Tryz.ntmps147
  go_wp2_with fail
  go_ret
  exact ⟨rfl, rfl⟩
theorem isNaN94 (x : Nat) (b : Bool) (h : (FloatKind.f64.format.order x x != some Ordering.eq) = b) (w : World) : Calls Tryz.prog 94 #[.float .f64 x] w fun e w' => e = .returned (.bool b) ∧ w = w' := by
  go_enter Tryz.func94, Tryz.ntmps94
  go_wp2_with fail
  go_ret
  exact ⟨by rw [← h]; rfl, rfl⟩
theorem isInf95 (x : Nat) (hx : x < 18446744073709551616) (b : Bool) (h : (FloatKind.f64.format.order (x % 9223372036854775808) 9218868437227405311 == some Ordering.gt) = b) (w : World) : Calls Tryz.prog 95 #[.float .f64 x, .int .i64 0] w fun e w' => e = .returned (.bool b) ∧ w = w' := by
  have M := Lib.hid (abs147 x hx w)
  obtain ⟨y, hy⟩ : ∃ y, x % 9223372036854775808 = y := ⟨_, rfl⟩
  rw [hy] at M h
  clear hy
  cases b with
  | true =>
    go_enter Tryz.func95, Tryz.ntmps95
    go_wp2_with fail
    refine M.out.mono ?_
    rintro e w' ⟨rfl, rfl⟩
    go_wp2_with fail
    go_ret
    exact ⟨rfl, rfl⟩
  | false =>
    go_enter Tryz.func95, Tryz.ntmps95
    go_wp2_with fail
    refine M.out.mono ?_
    rintro e w' ⟨rfl, rfl⟩
    go_wp2_with fail
    go_ret
    exact ⟨rfl, rfl⟩
theorem finB_cases (x : Nat) : (PF.Fin x → finB (x : Int) = true) ∧ (PF.Inf x → finB (x : Int) = false) ∧ (PF.Nan x → finB (x : Int) = false) := by
  unfold PF.Fin PF.Inf PF.Nan finB
  refine ⟨fun h => ?_, fun h => ?_, fun h => ?_⟩
  · exact decide_eq_true (by omega)
  · exact decide_eq_false (by omega)
  · exact decide_eq_false (by omega)
/-- The program's view of a float: no NaN, no infinity. -/
theorem float_view (x : Nat) (hx : x < 18446744073709551616) : ∃ b1 b2, (∀ w, Calls Tryz.prog 94 #[.float .f64 x] w fun e w' => e = .returned (.bool b1) ∧ w = w') ∧ (∀ w, Calls Tryz.prog 95 #[.float .f64 x, .int .i64 0] w fun e w' => e = .returned (.bool b2) ∧ w = w') ∧ (!b1 && !b2) = finB (x : Int) := by
  obtain ⟨f1, f2, f3⟩ := finB_cases x
  rcases PF.sorts x with h | h | h
  · refine ⟨false, false, isNaN94 x false ?_, isInf95 x hx false (PF.max_fin h), by rw [f1 h]; rfl⟩
    show (Ieee.double.order x x != some Ordering.eq) = false
    rw [PF.order_fin h]; rfl
  · refine ⟨false, true, isNaN94 x false ?_, isInf95 x hx true (PF.max_inf h), by rw [f2 h]; rfl⟩
    show (Ieee.double.order x x != some Ordering.eq) = false
    rw [PF.order_inf h]; rfl
  · obtain ⟨b, hb⟩ : ∃ b, (FloatKind.f64.format.order (x % 9223372036854775808) 9218868437227405311 == some Ordering.gt) = b := ⟨_, rfl⟩
    refine ⟨true, b, isNaN94 x true ?_, isInf95 x hx b hb, by rw [f3 h]; rfl⟩
    show (Ieee.double.order x x != some Ordering.eq) = true
    rw [PF.order_nan h]; rfl
theorem formV_1 (b : Int) (t : ByteArray) : formV 1 b t = (t.toList.isEmpty && finB b) := rfl
theorem formV_2 (b : Int) (t : ByteArray) : formV 2 b t = t.toList.isEmpty := rfl
theorem formV_3 (b : Int) (t : ByteArray) : formV 3 b t = (t.toList.isEmpty && decide (b < 2)) := rfl
theorem formV_4 (b : Int) (t : ByteArray) : formV 4 b t = (decide (b = 0) && decide (t.size ≤ 65536)) := rfl
theorem formV_o (k b : Int) (t : ByteArray) (h1 : k ≠ 1) (h2 : k ≠ 2) (h3 : k ≠ 3) (h4 : k ≠ 4) : formV k b t = false := by
  unfold formV; rw [if_neg h1, if_neg h2, if_neg h3, if_neg h4]
set_option maxHeartbeats 4000000 in
theorem formed59 (k : Int) (x : Nat) (t : ByteArray) (hx : x < 18446744073709551616) (w : World) :
    Calls Tryz.prog 59 #[.agg #[.int .i64 k, .int .u64 (x : Int), .string t]] w fun e w' => e = .returned (.bool (formV k (x : Int) t)) ∧ Below w.heap.size w w' := by
  obtain ⟨r, hr⟩ : ∃ r, formV k (x : Int) t = r := ⟨_, rfl⟩
  rw [hr]
  have HB : Hid (∀ c, Below w.heap.size w (w.alloc c)) := Lib.hid fun c => (Below.refl _ _).alloc (Nat.le_refl _) c
  obtain ⟨e, he⟩ : ∃ e, t.toList.isEmpty = e := ⟨_, rfl⟩
  by_cases h1 : k = 1
  · subst h1
    rw [formV_1, he] at hr
    obtain ⟨b1, b2, M1, M2, hb⟩ := float_view x hx
    rw [← hb] at hr
    have HR := Lib.hid hr
    have H1 := Lib.hid M1
    have H2 := Lib.hid M2
    have h66 := run66 x
    clear hr M1 M2 hb hx
    cases e with
    | false =>
      go_enter Tryz.func59, Tryz.ntmps59
      go_wp2_with fail
      go_ret
      exact ⟨by rw [← HR.out]; rfl, HB.out _⟩
    | true =>
      cases b1 with
      | true =>
        go_enter Tryz.func59, Tryz.ntmps59
        go_wp2_with fail
        refine (H1.out _).mono ?_
        rintro e w' ⟨rfl, rfl⟩
        go_wp2_with fail
        go_ret
        exact ⟨by rw [← HR.out]; rfl, HB.out _⟩
      | false =>
        go_enter Tryz.func59, Tryz.ntmps59
        go_wp2_with fail
        refine (H1.out _).mono ?_
        rintro e w' ⟨rfl, rfl⟩
        go_wp2_with fail
        refine (H2.out _).mono ?_
        rintro e w' ⟨rfl, rfl⟩
        cases b2 with
        | false =>
          go_wp2_with fail
          go_ret
          exact ⟨by rw [← HR.out]; rfl, HB.out _⟩
        | true =>
          go_wp2_with fail
          go_ret
          exact ⟨by rw [← HR.out]; rfl, HB.out _⟩
  · have k1 : (k == 1) = false := by rw [beq_eq_false_iff_ne]; exact h1
    by_cases h2 : k = 2
    · subst h2
      rw [formV_2, he] at hr
      subst hr
      clear k1 h1 hx
      cases e with
      | false =>
        go_enter Tryz.func59, Tryz.ntmps59
        go_wp2_with fail
        go_ret
        exact ⟨rfl, HB.out _⟩
      | true =>
        go_enter Tryz.func59, Tryz.ntmps59
        go_wp2_with fail
        go_ret
        exact ⟨rfl, HB.out _⟩
    · have k2 : (k == 2) = false := by rw [beq_eq_false_iff_ne]; exact h2
      by_cases h3 : k = 3
      · subst h3
        rw [formV_3, he] at hr
        have HR := Lib.hid hr
        clear k1 k2 h1 h2 hx hr
        cases e with
        | false =>
          go_enter Tryz.func59, Tryz.ntmps59
          go_wp2_with fail
          go_ret
          exact ⟨by rw [← HR.out]; rfl, HB.out _⟩
        | true =>
          by_cases hb : (x : Int) < 2
          · have HR2 : Hid (true = r) := Lib.hid (by rw [← HR.out, decide_eq_true hb]; rfl)
            go_enter Tryz.func59, Tryz.ntmps59
            go_wp2_with fail
            go_ret
            exact ⟨by rw [← HR2.out]; rfl, HB.out _⟩
          · have HR2 : Hid (false = r) := Lib.hid (by rw [← HR.out, decide_eq_false hb]; rfl)
            go_enter Tryz.func59, Tryz.ntmps59
            go_wp2_with fail
            go_ret
            exact ⟨by rw [← HR2.out]; rfl, HB.out _⟩
      · have k3 : (k == 3) = false := by rw [beq_eq_false_iff_ne]; exact h3
        by_cases h4 : k = 4
        · subst h4
          rw [formV_4] at hr
          have HR := Lib.hid hr
          clear k1 k2 k3 h1 h2 h3 hx hr
          by_cases hb : x = 0
          · have hbz : ((x : Int) == 0) = true := by rw [hb]; rfl
            by_cases ht : t.size ≤ 65536
            · have htz : (t.size : Int) ≤ 65536 := by omega
              have HR2 : Hid (true = r) := Lib.hid (by rw [← HR.out, decide_eq_true (show (x : Int) = 0 by omega), decide_eq_true ht]; rfl)
              clear hb ht
              go_enter Tryz.func59, Tryz.ntmps59
              go_wp2_with fail
              go_ret
              exact ⟨by rw [← HR2.out]; rfl, HB.out _⟩
            · have htz : ¬ (t.size : Int) ≤ 65536 := by omega
              have HR2 : Hid (false = r) := Lib.hid (by rw [← HR.out, decide_eq_false ht, Bool.and_false])
              clear hb ht
              go_enter Tryz.func59, Tryz.ntmps59
              go_wp2_with fail
              go_ret
              exact ⟨by rw [← HR2.out]; rfl, HB.out _⟩
          · have hbz : ((x : Int) == 0) = false := by rw [beq_eq_false_iff_ne]; omega
            have HR2 : Hid (false = r) := Lib.hid (by rw [← HR.out, decide_eq_false (show ¬(x : Int) = 0 by omega)]; rfl)
            clear hb
            go_enter Tryz.func59, Tryz.ntmps59
            go_wp2_with fail
            go_ret
            exact ⟨by rw [← HR2.out]; rfl, HB.out _⟩
        · have k4 : (k == 4) = false := by rw [beq_eq_false_iff_ne]; exact h4
          rw [formV_o k x t h1 h2 h3 h4] at hr
          subst hr
          clear h1 h2 h3 h4 hx
          go_enter Tryz.func59, Tryz.ntmps59
          go_wp2_with fail
          go_ret
          exact ⟨rfl, HB.out _⟩
set_option maxHeartbeats 4000000 in
theorem formed97 (k : Int) (x : Nat) (t : ByteArray) (hx : x < 18446744073709551616) (w : World) :
    Calls Tryz.prog 97 #[.agg #[.int .i64 k, .int .u64 (x : Int), .string t]] w fun e w' => e = .returned (.bool (formV k (x : Int) t)) ∧ Below w.heap.size w w' := by
  obtain ⟨r, hr⟩ : ∃ r, formV k (x : Int) t = r := ⟨_, rfl⟩
  rw [hr]
  have HB : Hid (∀ c, Below w.heap.size w (w.alloc c)) := Lib.hid fun c => (Below.refl _ _).alloc (Nat.le_refl _) c
  obtain ⟨e, he⟩ : ∃ e, t.toList.isEmpty = e := ⟨_, rfl⟩
  by_cases h1 : k = 1
  · subst h1
    rw [formV_1, he] at hr
    have h66 := run66 x
    obtain ⟨f1, f2, f3⟩ := finB_cases x
    cases e with
    | false =>
      have HR : Hid (false = r) := Lib.hid hr
      clear hr hx f1 f2 f3
      go_enter Tryz.func97, Tryz.ntmps97
      go_wp2_with fail
      go_ret
      exact ⟨by rw [← HR.out]; rfl, HB.out _⟩
    | true =>
      rcases PF.sorts x with h | h | h
      · rw [f1 h] at hr
        have HR : Hid (true = r) := Lib.hid hr
        have ho : (FloatKind.f64.format.order x x == some Ordering.eq) = true := by
          show (Ieee.double.order x x == some Ordering.eq) = true
          rw [PF.order_fin h]; rfl
        have hz : (FloatKind.f64.format.order 0 0 == some Ordering.eq) = true := by kernel_rfl
        have hsub := run_sub_fin h
        clear hr hx f1 f2 f3 h
        go_enter Tryz.func97, Tryz.ntmps97
        go_wp2_with fail
        go_ret
        exact ⟨by rw [← HR.out]; rfl, HB.out _⟩
      · rw [f2 h] at hr
        have HR : Hid (false = r) := Lib.hid hr
        have ho : (FloatKind.f64.format.order x x == some Ordering.eq) = true := by
          show (Ieee.double.order x x == some Ordering.eq) = true
          rw [PF.order_inf h]; rfl
        obtain ⟨y, hsub, s', t', hy⟩ := run_sub_inf h (w.alloc (.cells #[.int .i64 1, .int .u64 (x : Int), .string t] 53 (0, 0)))
        have hz : (FloatKind.f64.format.order y 0 == some Ordering.eq) = false := by
          show (Ieee.double.order y 0 == some Ordering.eq) = false
          unfold Ieee.Format.order Ieee.Datum.order
          rw [hy]; rfl
        clear hr hx f1 f2 f3 h hy
        go_enter Tryz.func97, Tryz.ntmps97
        go_wp2_with fail
        go_ret
        exact ⟨by rw [← HR.out]; rfl, (HB.out _).drew⟩
      · rw [f3 h] at hr
        have HR : Hid (false = r) := Lib.hid hr
        have ho : (FloatKind.f64.format.order x x == some Ordering.eq) = false := by
          show (Ieee.double.order x x == some Ordering.eq) = false
          rw [PF.order_nan h]; rfl
        clear hr hx f1 f2 f3 h
        go_enter Tryz.func97, Tryz.ntmps97
        go_wp2_with fail
        go_ret
        exact ⟨by rw [← HR.out]; rfl, HB.out _⟩
  · have k1 : (k == 1) = false := by rw [beq_eq_false_iff_ne]; exact h1
    by_cases h2 : k = 2
    · subst h2
      rw [formV_2, he] at hr
      subst hr
      clear k1 h1 hx
      cases e with
      | false =>
        go_enter Tryz.func97, Tryz.ntmps97
        go_wp2_with fail
        go_ret
        exact ⟨rfl, HB.out _⟩
      | true =>
        go_enter Tryz.func97, Tryz.ntmps97
        go_wp2_with fail
        go_ret
        exact ⟨rfl, HB.out _⟩
    · have k2 : (k == 2) = false := by rw [beq_eq_false_iff_ne]; exact h2
      by_cases h3 : k = 3
      · subst h3
        rw [formV_3, he] at hr
        have HR := Lib.hid hr
        clear k1 k2 h1 h2 hx hr
        cases e with
        | false =>
          go_enter Tryz.func97, Tryz.ntmps97
          go_wp2_with fail
          go_ret
          exact ⟨by rw [← HR.out]; rfl, HB.out _⟩
        | true =>
          by_cases hb : (x : Int) ≤ 1
          · have HR2 : Hid (true = r) := Lib.hid (by rw [← HR.out, decide_eq_true (show (x : Int) < 2 by omega)]; rfl)
            go_enter Tryz.func97, Tryz.ntmps97
            go_wp2_with fail
            go_ret
            exact ⟨by rw [← HR2.out]; rfl, HB.out _⟩
          · have HR2 : Hid (false = r) := Lib.hid (by rw [← HR.out, decide_eq_false (show ¬(x : Int) < 2 by omega)]; rfl)
            go_enter Tryz.func97, Tryz.ntmps97
            go_wp2_with fail
            go_ret
            exact ⟨by rw [← HR2.out]; rfl, HB.out _⟩
      · have k3 : (k == 3) = false := by rw [beq_eq_false_iff_ne]; exact h3
        by_cases h4 : k = 4
        · subst h4
          rw [formV_4] at hr
          have HR := Lib.hid hr
          clear k1 k2 k3 h1 h2 h3 hx hr
          by_cases hb : x = 0
          · have hbz : ((x : Int) == 0) = true := by rw [hb]; rfl
            by_cases ht : t.size ≤ 65536
            · have htz : (t.size : Int) ≤ 65536 := by omega
              have HR2 : Hid (true = r) := Lib.hid (by rw [← HR.out, decide_eq_true (show (x : Int) = 0 by omega), decide_eq_true ht]; rfl)
              clear hb ht
              go_enter Tryz.func97, Tryz.ntmps97
              go_wp2_with fail
              go_ret
              exact ⟨by rw [← HR2.out]; rfl, HB.out _⟩
            · have htz : ¬ (t.size : Int) ≤ 65536 := by omega
              have HR2 : Hid (false = r) := Lib.hid (by rw [← HR.out, decide_eq_false ht, Bool.and_false])
              clear hb ht
              go_enter Tryz.func97, Tryz.ntmps97
              go_wp2_with fail
              go_ret
              exact ⟨by rw [← HR2.out]; rfl, HB.out _⟩
          · have hbz : ((x : Int) == 0) = false := by rw [beq_eq_false_iff_ne]; omega
            have HR2 : Hid (false = r) := Lib.hid (by rw [← HR.out, decide_eq_false (show ¬(x : Int) = 0 by omega)]; rfl)
            clear hb
            go_enter Tryz.func97, Tryz.ntmps97
            go_wp2_with fail
            go_ret
            exact ⟨by rw [← HR2.out]; rfl, HB.out _⟩
        · have k4 : (k == 4) = false := by rw [beq_eq_false_iff_ne]; exact h4
          rw [formV_o k x t h1 h2 h3 h4] at hr
          subst hr
          clear h1 h2 h3 h4 hx
          go_enter Tryz.func97, Tryz.ntmps97
          go_wp2_with fail
          go_ret
          exact ⟨rfl, HB.out _⟩
end Go.Proofs.YtagiddbfhlokcaaGreatDoor.Ser
