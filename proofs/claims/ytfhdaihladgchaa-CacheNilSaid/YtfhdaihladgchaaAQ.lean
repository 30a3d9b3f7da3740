/- The cache's functions at a nil receiver. No condition. -/
import Derived.Test.YtfhdaihladgchaaAP
namespace Go.Proofs.Ytfhdaihladgchaa
open Go.RowKit Go.WideMaps Go.Sort
theorem clearN (w : World) : Calls Try.prog 20 #[.pointer none] w fun e w' => e = .returned (.tuple #[]) ∧ w = w' := by
  go_enter Try.func20, Try.ntmps20
  go_wp2_with fail
  go_end0
  exact ⟨rfl, rfl⟩
theorem putN10 (w : World) (s f : ByteArray) (p : Pt) : Calls Try.prog 10 #[.pointer none, .string s, .string f, .agg #[.int .i64 p.t, .int .i64 p.k, .int .u64 p.b, .string p.s]] w fun e w' => e = .returned (.int .i64 1) ∧ Below w.heap.size w w' := by
  have HB := Lib.hid (below_box w (.cells #[.int .i64 p.t, .int .i64 p.k, .int .u64 p.b, .string p.s] 33))
  go_enter Try.func10, Try.ntmps10
  go_wp2_with fail
  go_ret
  exact ⟨rfl, HB.out⟩
theorem getN11 (w : World) (s f : ByteArray) (a b : Int) : Calls Try.prog 11 #[.pointer none, .string s, .string f, .int .i64 a, .int .i64 b] w fun e w' => e = .returned (.slice none 0 0) ∧ w = w' := by
  go_enter Try.func11, Try.ntmps11
  go_wp2_with fail
  go_ret
  exact ⟨rfl, rfl⟩
theorem takeN21 (w : World) (s f : ByteArray) (a b : Int) : Calls Try.prog 21 #[.pointer none, .string s, .string f, .int .i64 a, .int .i64 b] w fun e w' => e = .returned (.int .i64 0) ∧ w = w' := by
  go_enter Try.func21, Try.ntmps21
  go_wp2_with fail
  go_ret
  exact ⟨rfl, rfl⟩
theorem colsN19 (w : World) : Calls Try.prog 19 #[.pointer none] w fun e w' => e = .returned (.slice none 0 0) ∧ w = w' := by
  go_enter Try.func19, Try.ntmps19
  go_wp2_with fail
  go_ret
  exact ⟨rfl, rfl⟩
theorem sizeN13 (w : World) : Calls Try.prog 13 #[.pointer none] w fun e w' => e = .returned (.int .i64 0) ∧ w = w' := by
  go_enter Try.func13, Try.ntmps13
  go_wp2_with fail
  go_ret
  exact ⟨rfl, rfl⟩
end Go.Proofs.Ytfhdaihladgchaa
