/- The walks of Formed, Number, Compare at integers, and of Step. No condition. -/
import Derived.Test.YtcpnmpemgkbanaaGreatDoorC
import Derived.Test.YtcpnmpemgkbanaaGreatDoorE
import Derived.Laws.FloatArith
import Derived.Test.YtcpnmpemgkbanaaGreatDoorShelf
namespace Go.Proofs.YtcpnmpemgkbanaaGreatDoor
open Go.RowKit
/-- An integer's bits. -/
def uw (v : Int) : Int := IntKind.u64.wrap v
theorem uw_bd (v : Int) : 0 ≤ uw v ∧ uw v < 18446744073709551616 := by
  unfold uw
  simp only [IntKind.wrap, IntKind.bits, IntKind.signed]
  simp
  omega
theorem sw_uw (v : Int) (h : lo63 ≤ v ∧ v ≤ 9223372036854775807) : wrap64 (uw v) = v := by
  unfold uw lo63 at *
  unfold wrap64
  simp only [IntKind.wrap, IntKind.bits, IntKind.signed]
  simp
  omega
def vInt (v : Int) : Value := .agg #[.int .i64 2, .int .u64 (uw v), .string ⟨#[]⟩]
def cInt (v : Int) : Obj := .cells #[.int .i64 2, .int .u64 (uw v), .string ⟨#[]⟩] 27
theorem formed_int (v : Int) (w : World) : Calls Tryz.prog 19 #[vInt v] w fun e w' => e = .returned (.bool true) ∧ w' = w.alloc (cInt v) := by
  obtain ⟨b, hb⟩ : ∃ b, uw v = b := ⟨_, rfl⟩
  unfold vInt cInt
  rw [hb]
  clear hb
  go_enter Tryz.func19, Tryz.ntmps19
  go_wp2_with fail
  go_ret
  exact ⟨rfl, rfl⟩
theorem number_int (v : Int) (w : World) (h : lo63 ≤ v ∧ v ≤ 9223372036854775807) : Calls Tryz.prog 30 #[vInt v] w fun e w' => e = .returned (.tuple #[.float .f64 (floatOfInt .f64 v), .bool true]) ∧ w' = w.alloc (cInt v) := by
  have hs := sw_uw v h
  obtain ⟨b, hb⟩ : ∃ b, uw v = b := ⟨_, rfl⟩
  unfold vInt cInt
  rw [hb] at hs ⊢
  have HS := Lib.hid hs
  clear hb hs
  go_enter Tryz.func30, Tryz.ntmps30
  go_wp2_with fail
  go_ret2
  refine ⟨?_, rfl⟩
  rw [← HS.out]
  rfl
def cmpI (a b : Int) : Int := if a < b then -1 else if b < a then 1 else 0
theorem isNaN_i64 (a : Int) (w : World) : Calls Tryz.prog 50 #[.int .i64 a] w fun e w' => e = .returned (.bool false) ∧ w = w' := by
  go_enter Tryz.func50, Tryz.ntmps50
  go_wp2_with fail
  go_ret
  exact ⟨rfl, rfl⟩
theorem compare_i64 (a b : Int) (w : World) : Calls Tryz.prog 41 #[.int .i64 a, .int .i64 b] w fun e w' => e = .returned (.int .i64 (cmpI a b)) ∧ w = w' := by
  unfold cmpI
  by_cases h1 : a < b
  · rw [if_pos h1]
    go_enter Tryz.func41, Tryz.ntmps41
    go_wp2_with (first | (go_at_call 50; refine (isNaN_i64 _ _).mono ?_; rintro e w' ⟨rfl, rfl⟩))
    go_ret
    exact ⟨rfl, rfl⟩
  · rw [if_neg h1]
    by_cases h2 : b < a
    · rw [if_pos h2]
      go_enter Tryz.func41, Tryz.ntmps41
      go_wp2_with (first | (go_at_call 50; refine (isNaN_i64 _ _).mono ?_; rintro e w' ⟨rfl, rfl⟩))
      go_ret
      exact ⟨rfl, rfl⟩
    · rw [if_neg h2]
      go_enter Tryz.func41, Tryz.ntmps41
      go_wp2_with (first | (go_at_call 50; refine (isNaN_i64 _ _).mono ?_; rintro e w' ⟨rfl, rfl⟩))
      go_ret
      exact ⟨rfl, rfl⟩
theorem compare_int (a b : Int) (w : World) (ha : lo63 ≤ a ∧ a ≤ 9223372036854775807) (hb : lo63 ≤ b ∧ b ≤ 9223372036854775807) :
    Calls Tryz.prog 31 #[vInt a, vInt b] w fun e w' => e = .returned (.int .i64 (cmpI a b)) ∧ w' = (w.alloc (cInt a)).alloc (cInt b) := by
  have h1 := sw_uw a ha
  have h2 := sw_uw b hb
  obtain ⟨x, hx⟩ : ∃ x, uw a = x := ⟨_, rfl⟩
  obtain ⟨y, hy⟩ : ∃ y, uw b = y := ⟨_, rfl⟩
  unfold vInt cInt
  rw [hx] at h1 ⊢
  rw [hy] at h2 ⊢
  have H1 := Lib.hid h1
  have H2 := Lib.hid h2
  clear h1 h2 hx hy
  go_enter Tryz.func31, Tryz.ntmps31
  go_wp2_with fail
  rw [H1.out, H2.out]
  refine (compare_i64 a b _).mono ?_
  rintro e w1 ⟨rfl, rfl⟩
  go_wp2_with fail
  go_ret
  exact ⟨rfl, rfl⟩
theorem bits3 (n : Nat) (h : n < 2 ^ 63) : bits BinOp.and IntKind.i64 (n : Int) 3 = ((n % 4 : Nat) : Int) := by
  have wr : ∀ (n : Int), 0 ≤ n → n < 2 ^ 63 → IntKind.i64.wrap n = n := fun n h0 h1 => by rw [IntKind.wrap_i64]; omega
  have := bits_mask .i64 63 (by decide) wr 2 (by decide) (n : Int) (by omega) (by omega)
  rw [show (3 : Int) = 2 ^ 2 - 1 from rfl, this]
  omega
theorem quarter (n q : Nat) (hn : n < 2 ^ 63) (hq : n % 4 = q) (w : World) : Calls Tryz.prog 43 #[.int .i64 n] w fun e w' => e = .returned (.int .i64 (q : Int)) ∧ w = w' := by
  subst hq
  have hb := bits3 n hn
  clear hn
  go_enter Tryz.func43, Tryz.ntmps43
  go_wp2
  go_ret
  exact ⟨rfl, rfl⟩
def stepV (q re im v : Nat) : Nat × Nat := match q with
  | 0 => (fadd re v, im)
  | 1 => (re, fadd im v)
  | 2 => (fadd re (neg v), im)
  | _ => (re, fadd im (neg v))
theorem run_add (P : Program) (t : TypeId) (x y : Nat) (hx : noNaN (Ieee.double.read x)) (hy : isNum (Ieee.double.read y)) : ∀ w : World, (binOp .add t (.float .f64 x) (.float .f64 y)).run P w = .ok (.float .f64 (fadd x y)) w :=
  fun w => run_float_arith w .add t .f64 x y _ (fadd_some hx hy).1
theorem neg_num {v : Nat} (hv : v < 2 ^ 64) (h : isNum (Ieee.double.read v)) : isNum (Ieee.double.read (neg v)) := by rw [read_neg hv]; exact isNum_opp h
theorem stepV_ok (q re im v : Nat) (hr : noNaN (Ieee.double.read re)) (hi : noNaN (Ieee.double.read im)) (hv : isNum (Ieee.double.read v)) (hl : v < 2 ^ 64) : noNaN (Ieee.double.read (stepV q re im v).1) ∧ noNaN (Ieee.double.read (stepV q re im v).2) := by
  unfold stepV
  split
  · exact ⟨(fadd_some hr hv).2, hi⟩
  · exact ⟨hr, (fadd_some hi hv).2⟩
  · exact ⟨(fadd_some hr (neg_num hl hv)).2, hi⟩
  · exact ⟨hr, (fadd_some hi (neg_num hl hv)).2⟩
theorem run_neg (P : Program) (w : World) (v : Nat) : (Op.unary .neg (.float .f64 v)).run P w = .ok (.float .f64 (neg v)) w := by
  simp [Op.unary, neg]
theorem wstep (re im v n : Nat) (w : World) (hn : n < 2 ^ 63) (hr : noNaN (Ieee.double.read re)) (hi : noNaN (Ieee.double.read im)) (hv : isNum (Ieee.double.read v)) (hl : v < 2 ^ 64) :
    Calls Tryz.prog 32 #[.complex .f64 re im, .float .f64 v, .int .i64 n] w fun e w' => e = .returned (.complex .f64 (stepV (n % 4) re im v).1 (stepV (n % 4) re im v).2) ∧ w = w' := by
  obtain ⟨q, h⟩ : ∃ q, n % 4 = q := ⟨_, rfl⟩
  have hq : q = 0 ∨ q = 1 ∨ q = 2 ∨ q = 3 := by omega
  have HN := Lib.hid hn
  have H := Lib.hid h
  rw [h]
  have a0 := run_add Tryz.prog 35 re v hr hv
  have a1 := run_add Tryz.prog 35 im v hi hv
  have a2 := run_add Tryz.prog 35 re (neg v) hr (neg_num hl hv)
  have a3 := run_add Tryz.prog 35 im (neg v) hi (neg_num hl hv)
  have hneg := fun w => run_neg Tryz.prog w v
  clear h hn hr hi hv hl
  rcases hq with rfl | rfl | rfl | rfl
  · go_enter Tryz.func32, Tryz.ntmps32
    go_wp2_with (go_at_call 43; refine (quarter _ _ HN.out H.out _).mono ?_; rintro e w' ⟨rfl, rfl⟩)
    go_ret
    exact ⟨rfl, rfl⟩
  · go_enter Tryz.func32, Tryz.ntmps32
    go_wp2_with (go_at_call 43; refine (quarter _ _ HN.out H.out _).mono ?_; rintro e w' ⟨rfl, rfl⟩)
    go_ret
    exact ⟨rfl, rfl⟩
  · go_enter Tryz.func32, Tryz.ntmps32
    go_wp2_with (go_at_call 43; refine (quarter _ _ HN.out H.out _).mono ?_; rintro e w' ⟨rfl, rfl⟩)
    go_ret
    exact ⟨rfl, rfl⟩
  · go_enter Tryz.func32, Tryz.ntmps32
    go_wp2_with (go_at_call 43; refine (quarter _ _ HN.out H.out _).mono ?_; rintro e w' ⟨rfl, rfl⟩)
    go_ret
    exact ⟨rfl, rfl⟩
end Go.Proofs.YtcpnmpemgkbanaaGreatDoor
