/- Number of any value, of the program and of the reference. No condition. -/
import Derived.Test.YtnnoefbmoafbnaaGreatDoorK
import Derived.Laws.FloatArith
namespace Go.Proofs.YtnnoefbmoafbnaaGreatDoor
open Go.RowKit Go.Sort
set_option maxRecDepth 100000
def numX (k b : Int) : Nat := if k = 1 then b.toNat else if k = 2 then floatOfInt .f64 (wrap64 b) else 0
def numO (k : Int) : Bool := if k = 1 then true else if k = 2 then true else false
theorem number5 (k b : Int) (s : ByteArray) (w : World) : Calls Tryz.prog 5 #[.agg #[.int .i64 k, .int .u64 b, .string s]] w fun e w' => e = .returned (.tuple #[.float .f64 (numX k b), .bool (numO k)]) ∧ w' = w.alloc (.cells #[.int .i64 k, .int .u64 b, .string s] 24) := by
  have h11 := run11 b
  unfold numX numO
  by_cases h1 : k = 1
  · subst h1
    rw [if_pos rfl, if_pos rfl]
    go_enter Tryz.func5, Tryz.ntmps5
    go_wp2_with fail
    go_ret2
    exact ⟨rfl, rfl⟩
  · rw [if_neg h1, if_neg h1]
    by_cases h2 : k = 2
    · subst h2
      rw [if_pos rfl, if_pos rfl]
      go_enter Tryz.func5, Tryz.ntmps5
      go_wp2_with fail
      go_ret2
      exact ⟨rfl, rfl⟩
    · rw [if_neg h2, if_neg h2]
      have e1 : (k == 1) = false := by simp [h1]
      have e2 : (k == 2) = false := by simp [h2]
      clear h1 h2
      go_enter Tryz.func5, Tryz.ntmps5
      go_wp2_with fail
      go_ret2
      exact ⟨rfl, rfl⟩
theorem number6 (k b : Int) (s : ByteArray) (w : World) : Calls Tryz.prog 6 #[.agg #[.int .i64 k, .int .u64 b, .string s]] w fun e w' => e = .returned (.tuple #[.float .f64 (numX k b), .bool (numO k)]) ∧ w' = w.alloc (.cells #[.int .i64 k, .int .u64 b, .string s] 24) := by
  have h11 := run11 b
  unfold numX numO
  by_cases h1 : k = 1
  · subst h1
    rw [if_pos rfl, if_pos rfl]
    go_enter Tryz.func6, Tryz.ntmps6
    go_wp2_with fail
    go_ret2
    exact ⟨rfl, rfl⟩
  · rw [if_neg h1, if_neg h1]
    by_cases h2 : k = 2
    · subst h2
      rw [if_pos rfl, if_pos rfl]
      go_enter Tryz.func6, Tryz.ntmps6
      go_wp2_with fail
      go_ret2
      exact ⟨rfl, rfl⟩
    · rw [if_neg h2, if_neg h2]
      have e1 : (k == 1) = false := by simp [h1]
      have e2 : (k == 2) = false := by simp [h2]
      clear h1 h2
      go_enter Tryz.func6, Tryz.ntmps6
      go_wp2_with fail
      go_ret2
      exact ⟨rfl, rfl⟩
end Go.Proofs.YtnnoefbmoafbnaaGreatDoor