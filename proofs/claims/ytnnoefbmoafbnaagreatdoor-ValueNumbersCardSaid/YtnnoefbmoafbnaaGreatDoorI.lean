/- Of, Formed and Print at 1.5, and awake. Conditions: the cells of the two tables of powers. -/
import Derived.Test.YtnnoefbmoafbnaaGreatDoorH
namespace Go.Proofs.YtnnoefbmoafbnaaGreatDoor
open Go.RowKit Go.Sort
set_option maxRecDepth 100000
theorem run7 (x : Nat) (w : World) : (callFunc 7 #[.float .f64 x]).run Tryz.prog w = .ok (.value (.int .u64 x)) w := by
  rw [run_callFunc_extern Tryz.func7 (by kernel_rfl) (by kernel_rfl) (by kernel_rfl) (e := Extern.MathFloatBits.float64bits) (by kernel_rfl)]
  rfl
theorem run11 (n : Int) (w : World) : (callFunc 11 #[.int .u64 n]).run Tryz.prog w = .ok (.value (.float .f64 n.toNat)) w := by
  rw [run_callFunc_extern Tryz.func11 (by kernel_rfl) (by kernel_rfl) (by kernel_rfl) (e := Extern.MathFloatBits.float64frombits) (by kernel_rfl)]
  rfl
def vFl (x : Nat) : Value := .agg #[.int .i64 1, .int .u64 x, .string ⟨#[]⟩]
def cFl (x : Nat) : Obj := .cells #[.int .i64 1, .int .u64 x, .string ⟨#[]⟩] 24
theorem cells_fl (w : World) (x : Nat) : (w.alloc (cFl x)).cell? ⟨w.heap.size, 0, none⟩ = some (.int .i64 1) ∧ (w.alloc (cFl x)).cell? ⟨w.heap.size, 1, none⟩ = some (.int .u64 x) ∧ (w.alloc (cFl x)).cell? ⟨w.heap.size, 2, none⟩ = some (.string ⟨#[]⟩) := by
  unfold cFl
  simp
theorem results8 (tmps : Array Value) (w : World) (B : Nat) (x y z : Value) (hb : tmps.getD 2 undef = .pointer (some ⟨B, 0, none⟩)) (h : w.cell? ⟨B, 0, none⟩ = some x ∧ w.cell? ⟨B, 1, none⟩ = some y ∧ w.cell? ⟨B, 2, none⟩ = some z) :
    (results Tryz.f8 tmps).run Tryz.prog w = .ok (.agg #[x, y, z]) w := by
  have hb' : tmps[2]?.getD undef = .pointer (some ⟨B, 0, none⟩) := by simpa using hb
  simp [results, hb', h.1, h.2.1, h.2.2, go_sem]
theorem results9 (tmps : Array Value) (w : World) (B : Nat) (x y z : Value) (hb : tmps.getD 2 undef = .pointer (some ⟨B, 0, none⟩)) (h : w.cell? ⟨B, 0, none⟩ = some x ∧ w.cell? ⟨B, 1, none⟩ = some y ∧ w.cell? ⟨B, 2, none⟩ = some z) :
    (results Tryz.f9 tmps).run Tryz.prog w = .ok (.agg #[x, y, z]) w := by
  have hb' : tmps[2]?.getD undef = .pointer (some ⟨B, 0, none⟩) := by simpa using hb
  simp [results, hb', h.1, h.2.1, h.2.2, go_sem]
theorem of8 (x : Nat) (w : World) : Calls Tryz.prog 8 #[.float .f64 x] w fun e w' => e = .returned (vFl x) ∧ w' = w.alloc (cFl x) := by
  have h7 := run7 x
  go_enter Tryz.func8, Tryz.ntmps8
  go_wp2_with fail
  exact bodyPost_ret (results8 _ _ w.heap.size _ _ _ rfl (cells_fl w x)) rfl ⟨rfl, rfl⟩
theorem of9 (x : Nat) (w : World) : Calls Tryz.prog 9 #[.float .f64 x] w fun e w' => e = .returned (vFl x) ∧ w' = w.alloc (cFl x) := by
  have h7 := run7 x
  go_enter Tryz.func9, Tryz.ntmps9
  go_wp2_with fail
  exact bodyPost_ret (results9 _ _ w.heap.size _ _ _ rfl (cells_fl w x)) rfl ⟨rfl, rfl⟩
end Go.Proofs.YtnnoefbmoafbnaaGreatDoor
