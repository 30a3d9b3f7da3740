/- Letters and digits, by the program and by the reference. No condition. -/
import Derived.Test.YtigicmnngppipaaGreatDoorRows
import Derived.WalkKit
import Derived.ProofKit
import Derived.OpenShut
import Derived.Below
import Derived.WalkLawsBesides
import Derived.WalkSpells
import Derived.Deep.Draws
import Derived.Deep.QuietTactic
import Derived.BigQuiet
import Derived.Deep.RegionHeld3
import Derived.Deep.AppendLies
import Derived.Laws.IdiomStrings
import Derived.Lib.Hide
import Derived.IntWalk
import Derived.Outline
namespace Go.Proofs.YtigicmnngppipaaGreatDoor.Lx
open Go.RowKit
def digitB (c : UInt8) : Bool := decide (48 ≤ c.toNat) && decide (c.toNat ≤ 57)
def letterB (c : UInt8) : Bool := (decide (97 ≤ c.toNat) && decide (c.toNat ≤ 122)) || ((decide (65 ≤ c.toNat) && decide (c.toNat ≤ 90)) || decide (c.toNat = 95))
theorem ret_bool {a b : Bool} (h : a = b) : Ending.returned (.bool a) = .returned (.bool b) := by rw [h]
theorem digit (c : UInt8) (w : World) : Calls Tryz.prog 67 #[.int .u8 c.toNat] w fun e w' => e = .returned (.bool (digitB c)) ∧ w = w' := by
  by_cases h1 : 48 ≤ c.toNat
  · by_cases h2 : c.toNat ≤ 57
    · have hd : digitB c = true := by simp [digitB, h1, h2]
      rw [hd]
      clear hd
      have h1' : (48 : Int) ≤ (c.toNat : Int) := by omega
      have h2' : (c.toNat : Int) ≤ 57 := by omega
      go_enter Tryz.func67, Tryz.ntmps67
      go_wp2
      go_ret
      exact ⟨rfl, rfl⟩
    · have hd : digitB c = false := by simp [digitB, h2]
      rw [hd]
      clear hd
      have h1' : (48 : Int) ≤ (c.toNat : Int) := by omega
      have h2' : ¬ (c.toNat : Int) ≤ 57 := by omega
      go_enter Tryz.func67, Tryz.ntmps67
      go_wp2
      go_ret
      exact ⟨rfl, rfl⟩
  · have hd : digitB c = false := by simp [digitB, h1]
    rw [hd]
    clear hd
    have h1' : ¬ (48 : Int) ≤ (c.toNat : Int) := by omega
    go_enter Tryz.func67, Tryz.ntmps67
    go_wp2
    go_ret
    exact ⟨rfl, rfl⟩
theorem or_spec (c : UInt8) : letterB c = ((decide (97 ≤ bits BinOp.or IntKind.u8 (c.toNat : Int) 32) && decide (bits BinOp.or IntKind.u8 (c.toNat : Int) 32 ≤ 122)) || ((c.toNat : Int) == 95)) := by
  have h : ∀ n : Fin 256, letterB (UInt8.ofNat n.val) = ((decide (97 ≤ bits BinOp.or IntKind.u8 ((UInt8.ofNat n.val).toNat : Int) 32) && decide (bits BinOp.or IntKind.u8 ((UInt8.ofNat n.val).toNat : Int) 32 ≤ 122)) || (((UInt8.ofNat n.val).toNat : Int) == 95)) := by decide +kernel
  have := h ⟨c.toNat, c.toNat_lt⟩
  simpa using this
theorem letter (c : UInt8) (w : World) : Calls Tryz.prog 66 #[.int .u8 c.toNat] w fun e w' => e = .returned (.bool (letterB c)) ∧ w = w' := by
  rw [or_spec]
  go_enter Tryz.func66, Tryz.ntmps66
  go_wp2
  all_goals
    go_ret
    refine ⟨ret_bool ?_, rfl⟩
    rw [Bool.eq_iff_iff]
    try simp
    try omega
theorem rdigit (c : UInt8) (w : World) : Calls Tryz.prog 84 #[.int .u8 c.toNat] w fun e w' => e = .returned (.bool (digitB c)) ∧ w = w' := by
  unfold digitB
  go_enter Tryz.func84, Tryz.ntmps84
  go_wp2
  all_goals
    go_ret
    refine ⟨ret_bool ?_, rfl⟩
    rw [Bool.eq_iff_iff]
    try simp
    try omega
theorem rletter (c : UInt8) (w : World) : Calls Tryz.prog 81 #[.int .u8 c.toNat] w fun e w' => e = .returned (.bool (letterB c)) ∧ w = w' := by
  unfold letterB
  go_enter Tryz.func81, Tryz.ntmps81
  go_wp2
  all_goals
    go_ret
    refine ⟨ret_bool ?_, rfl⟩
    rw [Bool.eq_iff_iff]
    try simp
    try omega
/-- The byte at a place; behind the end 0. -/
def hd (l : List UInt8) : UInt8 := l.headD 0
theorem drop_cons (s : ByteArray) (k : Nat) (h : k < s.size) : s.data.toList.drop k = s[k] :: s.data.toList.drop (k + 1) := by
  rw [List.drop_eq_getElem_cons (by simpa using h)]; rfl
theorem hd_in (s : ByteArray) (k : Nat) (h : k < s.size) : hd (s.data.toList.drop k) = s[k] := by rw [drop_cons s k h]; rfl
theorem hd_out (s : ByteArray) (k : Nat) (h : ¬ k < s.size) : hd (s.data.toList.drop k) = 0 := by rw [List.drop_eq_nil_of_le (by simp; omega)]; rfl
theorem peek (s : ByteArray) (X k n : Nat) (w : World) (hs : s.size ≤ 1048576) (hk : k ≤ s.size) (hn : n ≤ 1) (h0 : w.cell? ⟨X, 0, none⟩ = some (.string s)) (h1 : w.cell? ⟨X, 1, none⟩ = some (.int .i64 k)) :
    Calls Tryz.prog 68 #[.pointer (some ⟨X, 0, none⟩), .int .i64 n] w fun e w' => e = .returned (.int .u8 (hd (s.data.toList.drop (k + n))).toNat) ∧ ∃ m, w' = w.drewN m := by
  by_cases hlt : k + n < s.size
  · rw [hd_in _ _ hlt]
    have hlt' : (k : Int) + (n : Int) < (s.size : Int) := by omega
    have e1 : IntKind.i64.wrap ((k : Int) + (n : Int)) = (k : Int) + (n : Int) := IntWalk.i64_in _ (by omega)
    have e2 : ((k : Int) + (n : Int)).toNat = k + n := by omega
    have e3 : (0 : Int) ≤ (k : Int) + (n : Int) := by omega
    go_enter Tryz.func68, Tryz.ntmps68
    go_wp2
    go_quiet (fail)
    go_wp2
    go_quiet (fail)
    go_wp2
    go_ret
    exact ⟨rfl, _, World.drewN_drewN _ _ _⟩
  · rw [hd_out _ _ hlt]
    have hlt' : ¬ (k : Int) + (n : Int) < (s.size : Int) := by omega
    have e1 : IntKind.i64.wrap ((k : Int) + (n : Int)) = (k : Int) + (n : Int) := IntWalk.i64_in _ (by omega)
    go_enter Tryz.func68, Tryz.ntmps68
    go_wp2
    go_quiet (fail)
    go_wp2
    go_ret
    exact ⟨rfl, _, rfl⟩
end Go.Proofs.YtigicmnngppipaaGreatDoor.Lx
