/- FormatFloat's arithmetic at 1.5: the scaling. Conditions: two cells of the table of powers. -/
import Derived.Test.YtnnoefbmoafbnaaGreatDoorRows
import Derived.Test.YtnnoefbmoafbnaaGreatDoorShelf
import Derived.WalkKit
import Derived.ProofKit
import Derived.OpenShut
import Derived.Below
import Derived.WalkLawsBesides
import Derived.WalkSpells
import Derived.BigQuiet
import Derived.Lib.Hide
import Derived.Deep.AppendLies
namespace Go.Proofs.YtnnoefbmoafbnaaGreatDoor
open Go.RowKit
set_option maxRecDepth 100000
theorem log2 (w : World) : Calls Tryz.prog 94 #[.int .i64 16] w fun e w' => e = .returned (.int .i64 53) ∧ w' = w := by
  go_enter Tryz.func94, Tryz.ntmps94
  go_wp2
  go_ret
  exact ⟨rfl, rfl⟩
theorem log10 (w : World) : Calls Tryz.prog 49 #[.int .i64 (-52)] w fun e w' => e = .returned (.int .i64 (-16)) ∧ w' = w := by
  go_enter Tryz.func49, Tryz.ntmps49
  go_wp2
  go_ret
  exact ⟨rfl, rfl⟩
def Pow (w : World) : Prop := w.cell? ⟨8, 728, none⟩ = some (.int .u64 10240000000000000000) ∧ w.cell? ⟨8, 729, none⟩ = some (.int .u64 0)
def Pre (w : World) (b : Nat) (x y z : Value) : Prop := w.heap[b]? = some (.cells #[x, y, z] 156 (0, 0))
theorem Pre.c0 {w : World} {b : Nat} {x y z : Value} (h : Pre w b x y z) : w.cell? ⟨b, 0, none⟩ = some x := by rw [Lib.cell_of_heap h]; rfl
theorem Pre.c1 {w : World} {b : Nat} {x y z : Value} (h : Pre w b x y z) : w.cell? ⟨b, 1, none⟩ = some y := by rw [Lib.cell_of_heap h]; rfl
theorem Pre.c2 {w : World} {b : Nat} {x y z : Value} (h : Pre w b x y z) : w.cell? ⟨b, 2, none⟩ = some z := by rw [Lib.cell_of_heap h]; rfl
theorem nudge0 (u : Nat) (w : World) (h : u = 59999999999999995 ∨ u = 60000000000000005) : Calls Tryz.prog 96 #[.int .u64 u, .int .i64 0] w fun e w' => e = .returned (.int .u64 u) ∧ w' = w := by
  rcases h with rfl | rfl <;>
  · go_enter Tryz.func96, Tryz.ntmps96
    go_wp2
    go_ret
    exact ⟨rfl, rfl⟩
theorem ceil15 (w : World) : Calls Tryz.prog 97 #[.int .u64 59999999999999995] w fun e w' => e = .returned (.int .u64 14999999999999999) ∧ w' = w := by
  go_enter Tryz.func97, Tryz.ntmps97
  go_wp2
  go_ret
  exact ⟨rfl, rfl⟩
theorem floor15 (w : World) : Calls Tryz.prog 98 #[.int .u64 60000000000000005] w fun e w' => e = .returned (.int .u64 15000000000000001) ∧ w' = w := by
  go_enter Tryz.func98, Tryz.ntmps98
  go_wp2
  go_ret
  exact ⟨rfl, rfl⟩
theorem mulLo (w : World) : Calls Tryz.prog 119 #[.int .u64 13835058055282162688, .int .u64 10240000000000000000] w fun e w' => e = .returned (.tuple #[.int .u64 7679999999999999431, .int .u64 10437377940734869504]) ∧ w' = w := by
  have h := Tryz.bits_Mul64 13835058055282162688 10240000000000000000 (by omega) (by omega) w
  have e1 : 13835058055282162688 * 10240000000000000000 / 18446744073709551616 = 7679999999999999431 := by rfl
  have e2 : 13835058055282162688 * 10240000000000000000 % 18446744073709551616 = 10437377940734869504 := by rfl
  rw [e1, e2] at h
  exact h
theorem mulHi (w : World) : Calls Tryz.prog 119 #[.int .u64 13835058055282164736, .int .u64 10240000000000000000] w fun e w' => e = .returned (.tuple #[.int .u64 7680000000000000568, .int .u64 8009366132974682112]) ∧ w' = w := by
  have h := Tryz.bits_Mul64 13835058055282164736 10240000000000000000 (by omega) (by omega) w
  have e1 : 13835058055282164736 * 10240000000000000000 / 18446744073709551616 = 7680000000000000568 := by rfl
  have e2 : 13835058055282164736 * 10240000000000000000 % 18446744073709551616 = 8009366132974682112 := by rfl
  rw [e1, e2] at h
  exact h
theorem uscaleLo (w : World) (b : Nat) (y : Value) (h : Pre w b (.int .u64 10240000000000000000) y (.int .i64 7)) : Calls Tryz.prog 95 #[.int .u64 13835058055282162688, .pointer (some ⟨b, 0, none⟩)] w fun e w' => e = .returned (.int .u64 59999999999999995) ∧ w' = w := by
  have c0 := h.c0
  have c2 := h.c2
  have b7 : bits BinOp.and IntKind.i64 7 63 = 7 := by kernel_rfl
  have b8 : bits BinOp.or IntKind.u64 59999999999999995 1 = 59999999999999995 := by kernel_rfl
  have b9 : bits BinOp.or IntKind.u64 60000000000000004 1 = 60000000000000005 := by kernel_rfl
  go_enter Tryz.func95, Tryz.ntmps95
  go_wp2_with fail
  refine (mulLo _).mono ?_
  rintro e w' ⟨rfl, rfl⟩
  go_wp2_with fail
  go_ret
  exact ⟨rfl, rfl⟩
theorem uscaleHi (w : World) (b : Nat) (y : Value) (h : Pre w b (.int .u64 10240000000000000000) y (.int .i64 7)) : Calls Tryz.prog 95 #[.int .u64 13835058055282164736, .pointer (some ⟨b, 0, none⟩)] w fun e w' => e = .returned (.int .u64 60000000000000005) ∧ w' = w := by
  have c0 := h.c0
  have c2 := h.c2
  have b7 : bits BinOp.and IntKind.i64 7 63 = 7 := by kernel_rfl
  have b8 : bits BinOp.or IntKind.u64 59999999999999995 1 = 59999999999999995 := by kernel_rfl
  have b9 : bits BinOp.or IntKind.u64 60000000000000004 1 = 60000000000000005 := by kernel_rfl
  go_enter Tryz.func95, Tryz.ntmps95
  go_wp2_with fail
  refine (mulHi _).mono ?_
  rintro e w' ⟨rfl, rfl⟩
  go_wp2_with fail
  go_ret
  exact ⟨rfl, rfl⟩
end Go.Proofs.YtnnoefbmoafbnaaGreatDoor
