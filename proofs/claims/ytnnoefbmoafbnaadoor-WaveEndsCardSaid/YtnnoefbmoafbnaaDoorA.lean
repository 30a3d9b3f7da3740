/- The walks of the functions of the rows' sums: Step, Sum, Spin and Same, each as the code computes it. No condition but the sizes of what is read. -/
import Derived.Test.YtnnoefbmoafbnaaDoorRows
import Derived.Test.YtnnoefbmoafbnaaDoorFloat
import Derived.WalkKit
import Derived.ProofKit
import Derived.OpenShut
import Derived.Below
import Derived.Laws.FloatArith
import Derived.WalkLawsBesides
import Derived.Deep.Draws
import Derived.Lib.Hide
namespace Go.Proofs.YtnnoefbmoafbnaaDoor
open Go.RowKit
def stepR (q : Nat) (re im v re' im' : Nat) : Prop := match q with
  | 0 => addR re v re' ∧ im' = im
  | 1 => re' = re ∧ addR im v im'
  | 2 => addR re (neg v) re' ∧ im' = im
  | _ => re' = re ∧ addR im (neg v) im'
def Res (q re im v : Nat) (w : World) (e : Ending) (w' : World) : Prop := ∃ re' im', e = .returned (.complex .f64 re' im') ∧ stepR q re im v re' im' ∧ ∃ n, w' = w.drewN n
theorem wraps_i64 (n : Int) (h0 : 0 ≤ n) (h1 : n < 2 ^ 63) : IntKind.i64.wrap n = n := by rw [IntKind.wrap_i64]; omega
theorem bits3 (n : Nat) (h : n < 2 ^ 63) : bits BinOp.and IntKind.i64 (n : Int) 3 = ((n % 4 : Nat) : Int) := by
  have := bits_mask .i64 63 (by decide) wraps_i64 2 (by decide) (n : Int) (by omega) (by omega)
  rw [show (3 : Int) = 2 ^ 2 - 1 from rfl, this]
  omega
theorem quarter (n q : Nat) (hn : n < 2 ^ 63) (hq : n % 4 = q) (w : World) : Calls Tryd.prog 16 #[.int .i64 n] w fun e w' => e = .returned (.int .i64 (q : Int)) ∧ w = w' := by
  subst hq
  have hb := bits3 n hn
  clear hn
  go_enter Tryd.func16, Tryd.ntmps16
  go_wp2
  go_ret
  exact ⟨rfl, rfl⟩
theorem run_neg (P : Program) (w : World) (v : Nat) : (Op.unary .neg (.float .f64 v)).run P w = .ok (.float .f64 (neg v)) w := by
  simp [Op.unary, neg]
theorem wstep (re im v n q : Nat) (w : World) (hn : n < 2 ^ 63) (h : n % 4 = q) : Calls Tryd.prog 11 #[.complex .f64 re im, .float .f64 v, .int .i64 n] w (Res q re im v w) := by
  have hq : q = 0 ∨ q = 1 ∨ q = 2 ∨ q = 3 := by omega
  have HN := Lib.hid hn
  have H := Lib.hid h
  clear h hn
  rcases hq with rfl | rfl | rfl | rfl
  · obtain ⟨r, m, hr, hrun⟩ := run_fadd Tryd.prog w 23 re v
    have R := Lib.hid hr
    clear hr
    go_enter Tryd.func11, Tryd.ntmps11
    go_wp2_with (go_at_call 16; refine (quarter _ _ HN.out H.out _).mono ?_; rintro e w' ⟨rfl, rfl⟩)
    go_ret
    exact ⟨_, _, rfl, ⟨R.out, rfl⟩, _, rfl⟩
  · obtain ⟨r, m, hr, hrun⟩ := run_fadd Tryd.prog w 23 im v
    have R := Lib.hid hr
    clear hr
    go_enter Tryd.func11, Tryd.ntmps11
    go_wp2_with (go_at_call 16; refine (quarter _ _ HN.out H.out _).mono ?_; rintro e w' ⟨rfl, rfl⟩)
    go_ret
    exact ⟨_, _, rfl, ⟨rfl, R.out⟩, _, rfl⟩
  · obtain ⟨r, m, hr, hrun⟩ := run_fadd Tryd.prog w 23 re (neg v)
    have hneg := run_neg Tryd.prog w v
    have R := Lib.hid hr
    clear hr
    go_enter Tryd.func11, Tryd.ntmps11
    go_wp2_with (go_at_call 16; refine (quarter _ _ HN.out H.out _).mono ?_; rintro e w' ⟨rfl, rfl⟩)
    go_ret
    exact ⟨_, _, rfl, ⟨R.out, rfl⟩, _, rfl⟩
  · obtain ⟨r, m, hr, hrun⟩ := run_fadd Tryd.prog w 23 im (neg v)
    have hneg := run_neg Tryd.prog w v
    have R := Lib.hid hr
    clear hr
    go_enter Tryd.func11, Tryd.ntmps11
    go_wp2_with (go_at_call 16; refine (quarter _ _ HN.out H.out _).mono ?_; rintro e w' ⟨rfl, rfl⟩)
    go_ret
    exact ⟨_, _, rfl, ⟨rfl, R.out⟩, _, rfl⟩
theorem run_same (P : Program) (w : World) (v : Nat) (hu : P.underlying 23 = some (.float .f64)) : (convert 23 23 (.float .f64 v)).run P w = .ok (.float .f64 v) w :=
  run_convert_float_float w 23 23 .f64 .f64 v v (by rw [hu]; rfl) hu rfl
theorem rstep (re im v q : Nat) (z : Int) (w : World) (hz : z = q) (hv : v < 2 ^ 64) (h : q < 4) : Calls Tryd.prog 12 #[.complex .f64 re im, .float .f64 v, .int .i64 z] w (Res q re im v w) := by
  subst hz
  have hq : q = 0 ∨ q = 1 ∨ q = 2 ∨ q = 3 := by omega
  have HV := Lib.hid hv
  clear h hv
  rcases hq with rfl | rfl | rfl | rfl
  · obtain ⟨r, m, hr, hrun⟩ := run_fadd Tryd.prog w 23 re v
    have hc := fun w => run_same Tryd.prog w r Tryd.underlying23
    have R := Lib.hid hr
    clear hr
    go_enter Tryd.func12, Tryd.ntmps12
    go_wp2
    go_ret
    exact ⟨_, _, rfl, ⟨R.out, rfl⟩, _, rfl⟩
  · obtain ⟨r, m, hr, hrun⟩ := run_fadd Tryd.prog w 23 im v
    have hc := fun w => run_same Tryd.prog w r Tryd.underlying23
    have R := Lib.hid hr
    clear hr
    go_enter Tryd.func12, Tryd.ntmps12
    go_wp2
    go_ret
    exact ⟨_, _, rfl, ⟨rfl, R.out⟩, _, rfl⟩
  · obtain ⟨r, m, hr, hrun⟩ := run_fsub Tryd.prog w 23 re v
    have hc := fun w => run_same Tryd.prog w r Tryd.underlying23
    have R := Lib.hid hr
    clear hr
    go_enter Tryd.func12, Tryd.ntmps12
    go_wp2
    go_ret
    exact ⟨_, _, rfl, ⟨(subR_iff HV.out).1 R.out, rfl⟩, _, rfl⟩
  · obtain ⟨r, m, hr, hrun⟩ := run_fsub Tryd.prog w 23 im v
    have hc := fun w => run_same Tryd.prog w r Tryd.underlying23
    have R := Lib.hid hr
    clear hr
    go_enter Tryd.func12, Tryd.ntmps12
    go_wp2
    go_ret
    exact ⟨_, _, rfl, ⟨rfl, (subR_iff HV.out).1 R.out⟩, _, rfl⟩
def SumR (zs : List Nat) : Nat → Nat → Nat → Prop
  | 0, re, im => re = 0 ∧ im = 0
  | k + 1, re, im => ∃ a b, SumR zs k a b ∧ stepR (k % 4) a b (zs.getD k 0) re im
def Summed (zs : List Nat) (len : Nat) (w : World) (e : Ending) (w' : World) : Prop := ∃ re im, e = .returned (.complex .f64 re im) ∧ SumR zs len re im ∧ ∃ n, w' = w.drewN n
def InLoop (zs : List Nat) (len : Nat) (w : World) (c i : Value) (wr : World) : Prop := ∃ k re im n : Nat, k ≤ len ∧ i = .int .i64 k ∧ c = .complex .f64 re im ∧ SumR zs k re im ∧ wr = w.drewN n
theorem wsum (a : Option Addr) (len cap : Nat) (zs : List Nat) (w : World) (hlen : len < 2 ^ 63)
    (hc : ∀ i, i < len → ∃ b off, a = some ⟨b, off, none⟩ ∧ w.cell? ⟨b, off + i, none⟩ = some (.float .f64 (zs.getD i 0))) :
    Calls Tryd.prog 6 #[.slice a len cap] w (Summed zs len w) := by
  have HC := Lib.hid hc
  clear hc
  go_enter Tryd.func6, Tryd.ntmps6
  go_wp2
  go_loopw [3, 8] (fun c i wr => InLoop zs len w c i wr) (fun _ i _ => len - (intOf i).toNat)
  case atStart => exact ⟨0, 0, 0, 0, Nat.zero_le _, rfl, rfl, ⟨rfl, rfl⟩, rfl⟩
  case round =>
    obtain ⟨k, re, im, m, hk, rfl, rfl, hs, rfl⟩ := hrel
    have HS := Lib.hid hs
    clear hs
    by_cases hlt : k < len
    · obtain ⟨b, off, ha, hcell⟩ := HC.out k hlt
      subst ha
      go_wp2_with (go_at_call 11; refine (wstep _ _ _ _ (k % 4) _ (by omega) rfl).mono ?_; rintro e w' ⟨re', im', rfl, hst, n', rfl⟩; have HT := Lib.hid hst; clear hst)
      go_roundw
      case rel => exact ⟨k + 1, _, _, _, by omega, by go_num, rfl, ⟨_, _, HS.out, HT.out⟩, rfl⟩
      case measure => simp [intOf]; omega
    · have hk' : k = len := by omega
      have HK := Lib.hid hk'
      clear hk'
      go_wp2
      go_ret
      exact ⟨_, _, rfl, by rw [← HK.out]; exact HS.out, _, rfl⟩
theorem rsum (a : Option Addr) (len cap : Nat) (zs : List Nat) (w : World) (hlen : len < 2 ^ 63) (hz : ∀ i, zs.getD i 0 < 2 ^ 64)
    (hc : ∀ i, i < len → ∃ b off, a = some ⟨b, off, none⟩ ∧ w.cell? ⟨b, off + i, none⟩ = some (.float .f64 (zs.getD i 0))) :
    Calls Tryd.prog 7 #[.slice a len cap] w (Summed zs len w) := by
  have HC := Lib.hid hc
  clear hc
  have HZ := Lib.hid hz
  clear hz
  go_enter Tryd.func7, Tryd.ntmps7
  go_wp2
  go_loopw [3, 7] (fun c i wr => InLoop zs len w c i wr) (fun _ i _ => len - (intOf i).toNat)
  case atStart => exact ⟨0, 0, 0, 0, Nat.zero_le _, rfl, rfl, ⟨rfl, rfl⟩, rfl⟩
  case round =>
    obtain ⟨k, re, im, m, hk, rfl, rfl, hs, rfl⟩ := hrel
    have HS := Lib.hid hs
    clear hs
    by_cases hlt : k < len
    · obtain ⟨b, off, ha, hcell⟩ := HC.out k hlt
      subst ha
      go_wp2_with (go_at_call 12; refine (rstep _ _ _ (k % 4) _ _ (by omega) (HZ.out k) (by omega)).mono ?_; rintro e w' ⟨re', im', rfl, hst, n', rfl⟩; have HT := Lib.hid hst; clear hst)
      go_roundw
      case rel => exact ⟨k + 1, _, _, _, by omega, by go_num, rfl, ⟨_, _, HS.out, HT.out⟩, rfl⟩
      case measure => simp [intOf]; omega
    · have hk' : k = len := by omega
      have HK := Lib.hid hk'
      clear hk'
      go_wp2
      go_ret
      exact ⟨_, _, rfl, by rw [← HK.out]; exact HS.out, _, rfl⟩
theorem SumR_sim {zs : List Nat} : ∀ (k a b a' b' : Nat), SumR zs k a b → SumR zs k a' b' → Sim a a' ∧ Sim b b'
  | 0, a, b, a', b', h, h' => by obtain ⟨rfl, rfl⟩ := h; obtain ⟨rfl, rfl⟩ := h'; exact ⟨.inl rfl, .inl rfl⟩
  | k + 1, a, b, a', b', h, h' => by
    obtain ⟨c, d, h1, h2⟩ := h
    obtain ⟨c', d', h1', h2'⟩ := h'
    obtain ⟨s1, s2⟩ := SumR_sim k c d c' d' h1 h1'
    have hq : k % 4 = 0 ∨ k % 4 = 1 ∨ k % 4 = 2 ∨ k % 4 = 3 := by omega
    rcases hq with e | e | e | e <;> rw [e] at h2 h2'
    · obtain ⟨x, rfl⟩ := h2; obtain ⟨x', rfl⟩ := h2'; exact ⟨addR_sim s1 x x', s2⟩
    · obtain ⟨rfl, x⟩ := h2; obtain ⟨rfl, x'⟩ := h2'; exact ⟨s1, addR_sim s2 x x'⟩
    · obtain ⟨x, rfl⟩ := h2; obtain ⟨x', rfl⟩ := h2'; exact ⟨addR_sim s1 x x', s2⟩
    · obtain ⟨rfl, x⟩ := h2; obtain ⟨rfl, x'⟩ := h2'; exact ⟨s1, addR_sim s2 x x'⟩
theorem bits14 (b : Nat) (w : World) : (callFunc 15 #[.float .f64 b]).run Tryd.prog w = .ok (.value (.int .u64 b)) w := by
  rw [run_callFunc_extern (e := Extern.MathFloatBits.float64bits) Tryd.func15 (by kernel_rfl) (by kernel_rfl) (by kernel_rfl) (by kernel_rfl)]
  rfl
theorem rsame (a b : Nat) (w : World) (h : Sim a b) : Calls Tryd.prog 10 #[.float .f64 a, .float .f64 b] w fun e w' => e = .returned (.bool true) ∧ w = w' := by
  have h14 := bits14
  by_cases hab : a = b
  · subst hab
    clear h
    go_enter Tryd.func10, Tryd.ntmps10
    go_wp2
    go_ret
    exact ⟨rfl, rfl⟩
  · obtain ⟨ha, hb⟩ : isN a ∧ isN b := by rcases h with h | h; exact absurd h hab; exact h
    have e1 : FloatKind.f64.format.order a a = none := neq_nan ha
    have e2 : FloatKind.f64.format.order b b = none := neq_nan hb
    have hne : ((a : Int) == (b : Int)) = false := by simp; omega
    clear h ha hb hab
    go_enter Tryd.func10, Tryd.ntmps10
    go_wp2
    go_ret
    exact ⟨rfl, rfl⟩
theorem rSame (a b a' b' : Nat) (w : World) (h : Sim a a') (h' : Sim b b') : Calls Tryd.prog 5 #[.complex .f64 a b, .complex .f64 a' b'] w fun e w' => e = .returned (.bool true) ∧ w = w' := by
  have H := Lib.hid h
  have H' := Lib.hid h'
  clear h h'
  go_enter Tryd.func5, Tryd.ntmps5
  go_wp2_with fail
  refine (rsame _ _ _ H.out).mono ?_
  rintro e w' ⟨rfl, rfl⟩
  go_wp2_with fail
  refine (rsame _ _ _ H'.out).mono ?_
  rintro e w' ⟨rfl, rfl⟩
  go_wp2_with fail
  go_ret
  exact ⟨rfl, rfl⟩
def four : List Nat := [4607182418800017408, 4611686018427387904, 4613937818241073152, 4616189618054758400]
theorem four_sum {re im : Nat} (h : SumR four 4 re im) : re = 13835058055282163712 ∧ im = 13835058055282163712 := by
  have a1 : Ieee.double.add 0 4607182418800017408 = some 4607182418800017408 := by kernel_rfl
  have a2 : Ieee.double.add 0 4611686018427387904 = some 4611686018427387904 := by kernel_rfl
  have n3 : neg 4613937818241073152 = 13837309855095848960 := by kernel_rfl
  have n4 : neg 4616189618054758400 = 13839561654909534208 := by kernel_rfl
  have a3 : Ieee.double.add 4607182418800017408 13837309855095848960 = some 13835058055282163712 := by kernel_rfl
  have a4 : Ieee.double.add 4611686018427387904 13839561654909534208 = some 13835058055282163712 := by kernel_rfl
  obtain ⟨a, b, ⟨c, d, ⟨e, f, ⟨g, i, ⟨rfl, rfl⟩, h1⟩, h2⟩, h3⟩, h4⟩ := h
  simp only [four, stepR, addR, List.getD_cons_zero, List.getD_cons_succ, a1, n3, n4] at h1 h2 h3 h4
  obtain ⟨rfl, rfl⟩ := h1
  simp only [a2] at h2
  obtain ⟨rfl, rfl⟩ := h2
  simp only [a3] at h3
  obtain ⟨rfl, rfl⟩ := h3
  simp only [a4] at h4
  exact h4
theorem eq_four (w : World) : (binOp .eql 26 (.complex .f64 13835058055282163712 13835058055282163712) (.complex .f64 13835058055282163712 13835058055282163712)).run Tryd.prog w = .ok (.bool true) w := by kernel_rfl
theorem cell_four (w : World) (i : Nat) (h : i < 4) : (w.alloc (Obj.cells #[Value.float FloatKind.f64 4607182418800017408, Value.float FloatKind.f64 4611686018427387904, Value.float FloatKind.f64 4613937818241073152, Value.float FloatKind.f64 4616189618054758400] 23)).cell? ⟨w.heap.size, 0 + i, none⟩ = some (.float .f64 (four.getD i 0)) := by
  have : i = 0 ∨ i = 1 ∨ i = 2 ∨ i = 3 := by omega
  rcases this with rfl | rfl | rfl | rfl <;> simp [World.cell?_alloc_new, four]
theorem awake (w : World) : Calls Tryd.prog 4 #[] w fun e w' => e = .returned (.bool true) ∧ Below w.heap.size w w' := by
  have he := eq_four
  go_enter Tryd.func4, Tryd.ntmps4
  go_wp2_with fail
  refine (wsum _ 4 4 four _ (by omega) (fun i hi => ⟨_, _, rfl, cell_four w i hi⟩)).mono ?_
  rintro e w' ⟨re, im, rfl, hs, n, rfl⟩
  obtain ⟨rfl, rfl⟩ := four_sum hs
  clear hs
  go_wp2_with fail
  go_ret
  exact ⟨rfl, below_drewN ((Below.refl _ _).alloc (Nat.le_refl _) _) _⟩
end Go.Proofs.YtnnoefbmoafbnaaDoor
