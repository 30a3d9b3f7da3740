/- Is a value formed? Conditions: its bits and its length. -/
import Derived.Test.YtfhdaihladgchaaI
import Derived.WalkLawsBesides
namespace Go.Proofs.Ytfhdaihladgchaa
open Go.RowKit
theorem run58 (x : Nat) (w : World) : (callFunc 58 #[.float .f64 x]).run Try.prog w = .ok (.value (.int .u64 x)) w := by
  rw [run_callFunc_extern Try.func58 (by kernel_rfl) (by kernel_rfl) (by kernel_rfl) (e := Extern.MathFloatBits.float64bits) (by kernel_rfl)]
  rfl
theorem run37 (n : Int) (w : World) : (callFunc 37 #[.int .u64 n]).run Try.prog w = .ok (.value (.float .f64 n.toNat)) w := by
  rw [run_callFunc_extern Try.func37 (by kernel_rfl) (by kernel_rfl) (by kernel_rfl) (e := Extern.MathFloatBits.float64frombits) (by kernel_rfl)]
  rfl
def nanB (x : Nat) : Bool := Ieee.double.order x x != some .eq
theorem isnan (x : Nat) (w : World) : Calls Try.prog 38 #[.float .f64 x] w fun e w' => e = .returned (.bool (nanB x)) ∧ w = w' := by
  go_enter Try.func38, Try.ntmps38
  go_wp2_with fail
  go_ret
  exact ⟨rfl, rfl⟩
theorem andNot63 (x : Nat) (h : x < 2 ^ 64) : bits BinOp.andNot IntKind.u64 (x : Int) 9223372036854775808 = ((x % 2 ^ 63 : Nat) : Int) := by
  show IntKind.u64.wrap (((BitVec.ofInt 64 (x : Int)) &&& ~~~(BitVec.ofInt 64 9223372036854775808)).toNat : Int) = _
  have e1 : ~~~(BitVec.ofInt 64 9223372036854775808) = BitVec.ofNat 64 (2 ^ 63 - 1) := by decide
  have e3 : BitVec.ofInt 64 (x : Int) = BitVec.ofNat 64 x := by simp
  rw [e1, e3, BitVec.toNat_and, BitVec.toNat_ofNat, BitVec.toNat_ofNat, Nat.mod_eq_of_lt h, Nat.mod_eq_of_lt (by decide), Nat.and_two_pow_sub_one_eq_mod]
  simp only [IntKind.wrap, IntKind.bits, IntKind.signed]
  simp
  omega
theorem abs52 (x : Nat) (hx : x < 2 ^ 64) (w : World) : Calls Try.prog 52 #[.float .f64 x] w fun e w' => e = .returned (.float .f64 (x % 2 ^ 63)) ∧ w = w' := by
  have h58 := run58 x
  have h37 := run37
  have HA := Lib.hid (andNot63 x hx)
  clear hx
  go_enter Try.func52, Try.ntmps52
  go_wp2_with fail
  go_ret
  refine ⟨?_, rfl⟩
  show Ending.returned (.float .f64 (bits BinOp.andNot IntKind.u64 (x : Int) 9223372036854775808).toNat) = _
  rw [HA.out]
  rfl
def infB (x : Nat) : Bool := Ieee.double.order (x % 2 ^ 63) 9218868437227405311 == some .gt
theorem isinf (x : Nat) (hx : x < 2 ^ 64) (w : World) : Calls Try.prog 39 #[.float .f64 x, .int .i64 0] w fun e w' => e = .returned (.bool (infB x)) ∧ w = w' := by
  go_enter Try.func39, Try.ntmps39
  go_wp2_with fail
  refine (abs52 x hx _).mono ?_
  rintro e w' ⟨rfl, rfl⟩
  clear hx
  obtain ⟨y, hy⟩ : ∃ y, x % 2 ^ 63 = y := ⟨_, rfl⟩
  have HY := Lib.hid hy
  rw [hy]
  clear hy
  go_wp2_with fail
  go_ret
  refine ⟨?_, rfl⟩
  show Ending.returned (.bool (Ieee.double.order y 9218868437227405311 == some .gt)) = _
  rw [← HY.out]; rfl
/-- What the program takes for a value. -/
def formedB (k b : Int) (s : ByteArray) : Bool :=
  if k = 1 then s.toList.isEmpty && !nanB b.toNat && !infB b.toNat else if k = 2 then s.toList.isEmpty else if k = 3 then s.toList.isEmpty && decide (b < 2) else if k = 4 then b == 0 && decide (s.size ≤ 65536) else false
theorem ret_bool {a b : Bool} (h : a = b) : Ending.returned (.bool a) = .returned (.bool b) := by rw [h]
theorem below_box (w : World) (o : Obj) : Below w.heap.size w (w.alloc o) := (Below.refl _ _).alloc (Nat.le_refl _) _
set_option maxRecDepth 100000 in
theorem formed (k b : Int) (s : ByteArray) (w : World) (hb : 0 ≤ b ∧ b < 2 ^ 64) (hs : s.size ≤ maxLen) : Calls Try.prog 22 #[.agg #[.int .i64 k, .int .u64 b, .string s]] w fun e w' => e = .returned (.bool (formedB k b s)) ∧ Below w.heap.size w w' := by
  have h37 := fun w => run37 b w
  have HB := Lib.hid hb
  unfold maxLen at hs
  have hcase : (∃ _ : s.toList.isEmpty = true, s.toList = []) ∨ (∃ _ : s.toList.isEmpty = false, s.toList ≠ []) := by
    cases h : s.toList with
    | nil => exact .inl ⟨rfl, rfl⟩
    | cons x r => exact .inr ⟨rfl, by simp⟩
  clear hb
  by_cases h1 : k = 1
  · subst h1
    rcases hcase with ⟨he, he2⟩ | ⟨he, he2⟩
    · have HE := Lib.hid he
      have hnot : (!s.toList.isEmpty) = false := by rw [he]; rfl
      cases hn : nanB b.toNat with
      | true =>
        have HN := Lib.hid hn
        go_enter Try.func22, Try.ntmps22
        go_wp2_with fail
        refine (isnan b.toNat _).mono ?_
        rintro e w' ⟨rfl, rfl⟩
        go_wp2_with fail
        go_ret
        exact ⟨ret_bool (by simp [formedB, HN.out]), below_box _ _⟩
      | false =>
        have HN := Lib.hid hn
        go_enter Try.func22, Try.ntmps22
        go_wp2_with fail
        refine (isnan b.toNat _).mono ?_
        rintro e w' ⟨rfl, rfl⟩
        go_wp2_with fail
        refine (isinf b.toNat (by have := HB.out; omega) _).mono ?_
        rintro e w' ⟨rfl, rfl⟩
        obtain ⟨f, hf⟩ : ∃ f, infB b.toNat = f := ⟨_, rfl⟩
        have HFI := Lib.hid hf
        rw [hf]
        clear hf
        go_wp2_with fail
        go_ret
        exact ⟨ret_bool (by simp [formedB, HN.out, HE.out, HFI.out]), below_box _ _⟩
    · have HE := Lib.hid he
      go_enter Try.func22, Try.ntmps22
      go_wp2_with fail
      go_ret
      exact ⟨ret_bool (by simp [formedB, HE.out]), below_box _ _⟩
  by_cases h2 : k = 2
  · subst h2
    clear h1
    rcases hcase with ⟨he, he2⟩ | ⟨he, he2⟩
    all_goals
      have HE := Lib.hid he
      go_enter Try.func22, Try.ntmps22
      go_wp2_with fail
      go_ret
      exact ⟨ret_bool (by simp [formedB, HE.out]), below_box _ _⟩
  by_cases h3 : k = 3
  · subst h3
    clear h1 h2
    rcases hcase with ⟨he, he2⟩ | ⟨he, he2⟩
    · have HE := Lib.hid he
      obtain ⟨f, hf⟩ : ∃ f, decide (b < 2) = f := ⟨_, rfl⟩
      have HFI := Lib.hid hf
      go_enter Try.func22, Try.ntmps22
      go_wp2_with fail
      go_ret
      exact ⟨ret_bool (by simp [formedB, HE.out, HFI.out]), below_box _ _⟩
    · have HE := Lib.hid he
      go_enter Try.func22, Try.ntmps22
      go_wp2_with fail
      go_ret
      exact ⟨ret_bool (by simp [formedB, HE.out]), below_box _ _⟩
  by_cases h4 : k = 4
  · subst h4
    clear h1 h2 h3 hcase
    by_cases hb0 : b = 0
    · subst hb0
      have hd : decide ((s.size : Int) ≤ 65536) = decide (s.size ≤ 65536) := by rw [decide_eq_decide]; omega
      go_enter Try.func22, Try.ntmps22
      go_wp2_with fail
      go_ret
      exact ⟨ret_bool (by simp [formedB]), below_box _ _⟩
    · have hbb : (b == 0) = false := by simp [hb0]
      have HB0 := Lib.hid hb0
      clear hb0
      go_enter Try.func22, Try.ntmps22
      go_wp2_with fail
      go_ret
      exact ⟨ret_bool (by simp [formedB, HB0.out]), below_box _ _⟩
  · have b1 : (k == 1) = false := by simp [h1]
    have b2 : (k == 2) = false := by simp [h2]
    have b3 : (k == 3) = false := by simp [h3]
    have b4 : (k == 4) = false := by simp [h4]
    have H : Hid (formedB k b s = false) := Lib.hid (by simp [formedB, h1, h2, h3, h4])
    clear h1 h2 h3 h4 hcase
    go_enter Try.func22, Try.ntmps22
    go_wp2_with fail
    go_ret
    exact ⟨ret_bool (by rw [H.out]), below_box _ _⟩
end Go.Proofs.Ytfhdaihladgchaa
