/- The texts of the sums, of the program and of the reference. No condition. -/
import Derived.Test.YtnnoefbmoafbnaaDoorD
namespace Go.Proofs.YtnnoefbmoafbnaaDoor
open Go.RowKit
set_option maxRecDepth 100000

theorem self0 : FloatKind.f64.format.order 0 0 = some .eq := by kernel_rfl
theorem up0 : FloatKind.f64.format.order 0 9218868437227405311 = some .lt := by kernel_rfl
theorem dn0 : FloatKind.f64.format.order 0 18442240474082181119 = some .gt := by kernel_rfl
theorem un0 : FloatKind.f64.format.order 9223372036854775808 9218868437227405311 = some .lt := by kernel_rfl
theorem neg0 (w : World) : (Op.unary .neg (.float .f64 0)).run Tryd.prog w = .ok (.float .f64 9223372036854775808) w := by kernel_rfl
theorem isNaN0 (w : World) : Calls Tryd.prog 17 #[.float .f64 0] w fun e w' => e = .returned (.bool false) ∧ w' = w := by
  have h := self0
  go_enter Tryd.func17, Tryd.ntmps17
  go_wp2
  go_ret
  exact ⟨rfl, rfl⟩
theorem isUp0 (w : World) : Calls Tryd.prog 18 #[.float .f64 0, .int .i64 1] w fun e w' => e = .returned (.bool false) ∧ w' = w := by
  have h := up0
  go_enter Tryd.func18, Tryd.ntmps18
  go_wp2
  go_ret
  exact ⟨rfl, rfl⟩
theorem isDn0 (w : World) : Calls Tryd.prog 18 #[.float .f64 0, .int .i64 (-1)] w fun e w' => e = .returned (.bool false) ∧ w' = w := by
  have h := un0
  have hn := neg0
  go_enter Tryd.func18, Tryd.ntmps18
  go_wp2
  go_ret
  exact ⟨rfl, rfl⟩
theorem wpart0 (w : World) : Calls Tryd.prog 13 #[.float .f64 0] w fun e w' => e = .returned (.string ⟨#[48]⟩) ∧ Below w.heap.size w w' := by
  go_enter Tryd.func13, Tryd.ntmps13
  go_wp2_with fail
  refine (isNaN0 _).mono ?_
  rintro e w' ⟨rfl, rfl⟩
  go_wp2_with fail
  refine (isUp0 _).mono ?_
  rintro e w' ⟨rfl, rfl⟩
  go_wp2_with fail
  refine (isDn0 _).mono ?_
  rintro e w' ⟨rfl, rfl⟩
  go_wp2_with fail
  refine (vfloat0 _).mono ?_
  rintro e w' ⟨rfl, hb⟩
  go_wp2_with fail
  go_ret
  exact ⟨rfl, hb⟩
theorem rpart0 (w : World) : Calls Tryd.prog 14 #[.float .f64 0] w fun e w' => e = .returned (.string ⟨#[48]⟩) ∧ Below w.heap.size w w' := by
  have h1 := self0
  have h2 := up0
  have h3 := dn0
  go_enter Tryd.func14, Tryd.ntmps14
  go_wp2_with (go_at_call 20; refine (rfloat0 _).mono ?_; rintro e w' ⟨rfl, hb⟩)
  go_ret
  exact ⟨rfl, hb⟩
theorem selfp : FloatKind.f64.format.order 9218868437227405312 9218868437227405312 = some .eq := by kernel_rfl
theorem upp : FloatKind.f64.format.order 9218868437227405312 9218868437227405311 = some .gt := by kernel_rfl
theorem dnp : FloatKind.f64.format.order 9218868437227405312 18442240474082181119 = some .gt := by kernel_rfl
theorem unp : FloatKind.f64.format.order 18442240474082181120 9218868437227405311 = some .lt := by kernel_rfl
theorem negp (w : World) : (Op.unary .neg (.float .f64 9218868437227405312)).run Tryd.prog w = .ok (.float .f64 18442240474082181120) w := by kernel_rfl
theorem isNaNp (w : World) : Calls Tryd.prog 17 #[.float .f64 9218868437227405312] w fun e w' => e = .returned (.bool false) ∧ w' = w := by
  have h := selfp
  go_enter Tryd.func17, Tryd.ntmps17
  go_wp2
  go_ret
  exact ⟨rfl, rfl⟩
theorem isUpp (w : World) : Calls Tryd.prog 18 #[.float .f64 9218868437227405312, .int .i64 1] w fun e w' => e = .returned (.bool true) ∧ w' = w := by
  have h := upp
  go_enter Tryd.func18, Tryd.ntmps18
  go_wp2
  go_ret
  exact ⟨rfl, rfl⟩
theorem isDnp (w : World) : Calls Tryd.prog 18 #[.float .f64 9218868437227405312, .int .i64 (-1)] w fun e w' => e = .returned (.bool false) ∧ w' = w := by
  have h := unp
  have hn := negp
  go_enter Tryd.func18, Tryd.ntmps18
  go_wp2
  go_ret
  exact ⟨rfl, rfl⟩
theorem wpartp (w : World) : Calls Tryd.prog 13 #[.float .f64 9218868437227405312] w fun e w' => e = .returned (.string ⟨#[43, 73, 110, 102]⟩) ∧ Below w.heap.size w w' := by
  go_enter Tryd.func13, Tryd.ntmps13
  go_wp2_with fail
  refine (isNaNp _).mono ?_
  rintro e w' ⟨rfl, rfl⟩
  go_wp2_with fail
  refine (isUpp _).mono ?_
  rintro e w' ⟨rfl, rfl⟩
  go_wp2_with fail
  go_ret
  exact ⟨rfl, Below.refl _ _⟩
theorem rpartp (w : World) : Calls Tryd.prog 14 #[.float .f64 9218868437227405312] w fun e w' => e = .returned (.string ⟨#[43, 73, 110, 102]⟩) ∧ Below w.heap.size w w' := by
  have h1 := selfp
  have h2 := upp
  have h3 := dnp
  go_enter Tryd.func14, Tryd.ntmps14
  go_wp2_with (fail)
  go_ret
  exact ⟨rfl, Below.refl _ _⟩
theorem selfn : FloatKind.f64.format.order 18442240474082181120 18442240474082181120 = some .eq := by kernel_rfl
theorem upn : FloatKind.f64.format.order 18442240474082181120 9218868437227405311 = some .lt := by kernel_rfl
theorem dnn : FloatKind.f64.format.order 18442240474082181120 18442240474082181119 = some .lt := by kernel_rfl
theorem unn : FloatKind.f64.format.order 9218868437227405312 9218868437227405311 = some .gt := by kernel_rfl
theorem negn (w : World) : (Op.unary .neg (.float .f64 18442240474082181120)).run Tryd.prog w = .ok (.float .f64 9218868437227405312) w := by kernel_rfl
theorem isNaNn (w : World) : Calls Tryd.prog 17 #[.float .f64 18442240474082181120] w fun e w' => e = .returned (.bool false) ∧ w' = w := by
  have h := selfn
  go_enter Tryd.func17, Tryd.ntmps17
  go_wp2
  go_ret
  exact ⟨rfl, rfl⟩
theorem isUpn (w : World) : Calls Tryd.prog 18 #[.float .f64 18442240474082181120, .int .i64 1] w fun e w' => e = .returned (.bool false) ∧ w' = w := by
  have h := upn
  go_enter Tryd.func18, Tryd.ntmps18
  go_wp2
  go_ret
  exact ⟨rfl, rfl⟩
theorem isDnn (w : World) : Calls Tryd.prog 18 #[.float .f64 18442240474082181120, .int .i64 (-1)] w fun e w' => e = .returned (.bool true) ∧ w' = w := by
  have h := unn
  have hn := negn
  go_enter Tryd.func18, Tryd.ntmps18
  go_wp2
  go_ret
  exact ⟨rfl, rfl⟩
theorem wpartn (w : World) : Calls Tryd.prog 13 #[.float .f64 18442240474082181120] w fun e w' => e = .returned (.string ⟨#[45, 73, 110, 102]⟩) ∧ Below w.heap.size w w' := by
  go_enter Tryd.func13, Tryd.ntmps13
  go_wp2_with fail
  refine (isNaNn _).mono ?_
  rintro e w' ⟨rfl, rfl⟩
  go_wp2_with fail
  refine (isUpn _).mono ?_
  rintro e w' ⟨rfl, rfl⟩
  go_wp2_with fail
  refine (isDnn _).mono ?_
  rintro e w' ⟨rfl, rfl⟩
  go_wp2_with fail
  go_ret
  exact ⟨rfl, Below.refl _ _⟩
theorem rpartn (w : World) : Calls Tryd.prog 14 #[.float .f64 18442240474082181120] w fun e w' => e = .returned (.string ⟨#[45, 73, 110, 102]⟩) ∧ Below w.heap.size w w' := by
  have h1 := selfn
  have h2 := upn
  have h3 := dnn
  go_enter Tryd.func14, Tryd.ntmps14
  go_wp2_with (fail)
  go_ret
  exact ⟨rfl, Below.refl _ _⟩
/-- The sums that come about, and their texts. -/
def PT (b : Nat) (s : ByteArray) : Prop := (b = 0 ∧ s = ⟨#[48, 44, 48]⟩) ∨ (b = 9218868437227405312 ∧ s = ⟨#[43, 73, 110, 102, 44, 48]⟩) ∨ (b = 18442240474082181120 ∧ s = ⟨#[45, 73, 110, 102, 44, 48]⟩)
theorem wtext {a : Nat} {s : ByteArray} (h : PT a s) (w : World) : Calls Tryd.prog 8 #[.complex .f64 a 0] w fun e w' => e = .returned (.string s) ∧ Below w.heap.size w w' := by
  rcases h with ⟨rfl, rfl⟩ | ⟨rfl, rfl⟩ | ⟨rfl, rfl⟩
  · go_enter Tryd.func8, Tryd.ntmps8
    go_wp2_with fail
    refine (wpart0 _).mono ?_
    rintro e w1 ⟨rfl, hb1⟩
    go_wp2_with fail
    refine (wpart0 _).mono ?_
    rintro e w2 ⟨rfl, hb2⟩
    go_wp2_with fail
    go_ret
    exact ⟨rfl, hb1.trans (hb2.mono hb1.size)⟩
  · go_enter Tryd.func8, Tryd.ntmps8
    go_wp2_with fail
    refine (wpartp _).mono ?_
    rintro e w1 ⟨rfl, hb1⟩
    go_wp2_with fail
    refine (wpart0 _).mono ?_
    rintro e w2 ⟨rfl, hb2⟩
    go_wp2_with fail
    go_ret
    exact ⟨rfl, hb1.trans (hb2.mono hb1.size)⟩
  · go_enter Tryd.func8, Tryd.ntmps8
    go_wp2_with fail
    refine (wpartn _).mono ?_
    rintro e w1 ⟨rfl, hb1⟩
    go_wp2_with fail
    refine (wpart0 _).mono ?_
    rintro e w2 ⟨rfl, hb2⟩
    go_wp2_with fail
    go_ret
    exact ⟨rfl, hb1.trans (hb2.mono hb1.size)⟩
theorem rtext {a : Nat} {s : ByteArray} (h : PT a s) (w : World) : Calls Tryd.prog 9 #[.complex .f64 a 0] w fun e w' => e = .returned (.string s) ∧ Below w.heap.size w w' := by
  rcases h with ⟨rfl, rfl⟩ | ⟨rfl, rfl⟩ | ⟨rfl, rfl⟩
  · go_enter Tryd.func9, Tryd.ntmps9
    go_wp2_with fail
    refine (rpart0 _).mono ?_
    rintro e w1 ⟨rfl, hb1⟩
    go_wp2_with fail
    refine (rpart0 _).mono ?_
    rintro e w2 ⟨rfl, hb2⟩
    go_wp2_with fail
    go_ret
    exact ⟨rfl, hb1.trans (hb2.mono hb1.size)⟩
  · go_enter Tryd.func9, Tryd.ntmps9
    go_wp2_with fail
    refine (rpartp _).mono ?_
    rintro e w1 ⟨rfl, hb1⟩
    go_wp2_with fail
    refine (rpart0 _).mono ?_
    rintro e w2 ⟨rfl, hb2⟩
    go_wp2_with fail
    go_ret
    exact ⟨rfl, hb1.trans (hb2.mono hb1.size)⟩
  · go_enter Tryd.func9, Tryd.ntmps9
    go_wp2_with fail
    refine (rpartn _).mono ?_
    rintro e w1 ⟨rfl, hb1⟩
    go_wp2_with fail
    refine (rpart0 _).mono ?_
    rintro e w2 ⟨rfl, hb2⟩
    go_wp2_with fail
    go_ret
    exact ⟨rfl, hb1.trans (hb2.mono hb1.size)⟩
end Go.Proofs.YtnnoefbmoafbnaaDoor