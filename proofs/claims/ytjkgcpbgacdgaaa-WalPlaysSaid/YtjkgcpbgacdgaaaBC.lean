/- The log: First, Next; bytes laid behind it. Conditions: the disk lies there whole, the log apart from it. -/
import Derived.Test.YtjkgcpbgacdgaaaBB
import Derived.Deep.RegionHeld3
namespace Go.Proofs.Ytjkgcpbgacdgaaa
open Go.RowKit
theorem blk_lt {w : World} {k : Nat} {o : Obj} (h : w.heap[k]? = some o) : k < w.heap.size := (Array.getElem?_eq_some_iff.1 h).1
def logO (d : Nat) (first : Int) (v : Value) (size : Int) (over : Bool) : Obj := .cells #[.pointer (some ⟨d, 0, none⟩), .int .i64 first, v, .int .i64 size, .bool over] 86 (0, 0)
theorem log_cells {w : World} {l d : Nat} {first size : Int} {v : Value} {over : Bool} (h : w.heap[l]? = some (logO d first v size over)) : w.cell? ⟨l, 0, none⟩ = some (.pointer (some ⟨d, 0, none⟩)) ∧ w.cell? ⟨l, 1, none⟩ = some (.int .i64 first) ∧ w.cell? ⟨l, 2, none⟩ = some v ∧ w.cell? ⟨l, 3, none⟩ = some (.int .i64 size) ∧ w.cell? ⟨l, 4, none⟩ = some (.bool over) ∧ ∀ i, w.frozen? ⟨l, i, none⟩ = false := by
  unfold logO at h
  exact ⟨by simp [World.cell?, h], by simp [World.cell?, h], by simp [World.cell?, h], by simp [World.cell?, h], by simp [World.cell?, h], fun i => by simp [World.frozen?, h]⟩
theorem log_set3 {w : World} {l d : Nat} {first size z : Int} {v : Value} {over : Bool} (h : w.heap[l]? = some (logO d first v size over)) : (w.setCell ⟨l, 3, none⟩ (.int .i64 z)).heap[l]? = some (logO d first v z over) := heap_setCell_same w l 3 _ 86 _ h
theorem log_set4 {w : World} {l d : Nat} {first size : Int} {v : Value} {over b : Bool} (h : w.heap[l]? = some (logO d first v size over)) : (w.setCell ⟨l, 4, none⟩ (.bool b)).heap[l]? = some (logO d first v size b) := heap_setCell_same w l 4 _ 86 _ h
theorem log_other {w : World} {l i k : Nat} {u : Value} (h : k ≠ l) : (w.setCell ⟨l, i, none⟩ u).heap[k]? = w.heap[k]? := Below.heap_setCell _ _ _ _ h
theorem first19 (w : World) (l d : Nat) (first size : Int) (v : Value) (over : Bool) (h : w.heap[l]? = some (logO d first v size over)) : Calls Try.prog 19 #[.pointer (some ⟨l, 0, none⟩)] w fun e w' => e = .returned (.int .i64 first) ∧ w = w' := by
  obtain ⟨c0, c1, c2, c3, c4, _⟩ := log_cells h
  clear h
  go_enter Try.func19, Try.ntmps19
  go_wp2_with fail
  go_ret
  exact ⟨rfl, rfl⟩
theorem next20 (w : World) (l d : Nat) (first size : Int) (a : Option Addr) (n c : Nat) (over : Bool) (h : w.heap[l]? = some (logO d first (.slice a n c) size over)) (hn : -(2 ^ 62) ≤ first ∧ first ≤ 2 ^ 62) (hn2 : n ≤ 2 ^ 40) : Calls Try.prog 20 #[.pointer (some ⟨l, 0, none⟩)] w fun e w' => e = .returned (.int .i64 (first + n)) ∧ ∃ q, w' = w.drewN q := by
  obtain ⟨c0, c1, c2, c3, c4, _⟩ := log_cells h
  clear h
  go_enter Try.func20, Try.ntmps20
  go_wp2_with fail
  go_quiet (fail)
  go_wp2_with fail
  go_ret
  exact ⟨rfl, _, rfl⟩
end Go.Proofs.Ytjkgcpbgacdgaaa
