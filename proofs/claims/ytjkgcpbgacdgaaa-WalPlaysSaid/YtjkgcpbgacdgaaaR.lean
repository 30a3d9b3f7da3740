/- A disk that is nil: what each call answers. No condition. -/
import Derived.Test.YtjkgcpbgacdgaaaQ
namespace Go.Proofs.Ytjkgcpbgacdgaaa
open Go.RowKit Go.Sort
set_option maxRecDepth 100000 in
theorem down_n (w : World) : Calls Try.prog 28 #[.pointer none] w fun e w' => e = .returned (.bool true) ∧ w = w' := by
  go_enter Try.func28, Try.ntmps28
  go_wp2_with fail
  first
  | (go_ret; exact ⟨rfl, rfl⟩)
  | (go_ret2; exact ⟨rfl, rfl⟩)
  | (go_end0; exact ⟨rfl, rfl⟩)
  | (refine bodyPost_ret (results_none rfl _ _ _) rfl ?_; exact ⟨rfl, rfl⟩)
set_option maxRecDepth 100000 in
theorem get_n (w : World) (s : ByteArray) : Calls Try.prog 41 #[.pointer none, .string s] w fun e w' => e = .returned (.tuple #[.pointer none, .int .i64 8]) ∧ w = w' := by
  go_enter Try.func41, Try.ntmps41
  go_wp2_with fail
  refine (down_n _).mono ?_
  rintro e w1 ⟨rfl, rfl⟩
  go_wp2_with fail
  first
  | (go_ret; exact ⟨rfl, rfl⟩)
  | (go_ret2; exact ⟨rfl, rfl⟩)
  | (go_end0; exact ⟨rfl, rfl⟩)
  | (refine bodyPost_ret (results_none rfl _ _ _) rfl ?_; exact ⟨rfl, rfl⟩)
set_option maxRecDepth 100000 in
theorem change_n (w : World) (s : ByteArray) : Calls Try.prog 47 #[.pointer none, .string s] w fun e w' => e = .returned (.tuple #[.pointer none, .int .i64 8]) ∧ w = w' := by
  go_enter Try.func47, Try.ntmps47
  go_wp2_with fail
  refine (get_n _ _).mono ?_
  rintro e w1 ⟨rfl, rfl⟩
  go_wp2_with fail
  first
  | (go_ret; exact ⟨rfl, rfl⟩)
  | (go_ret2; exact ⟨rfl, rfl⟩)
  | (go_end0; exact ⟨rfl, rfl⟩)
  | (refine bodyPost_ret (results_none rfl _ _ _) rfl ?_; exact ⟨rfl, rfl⟩)
set_option maxRecDepth 100000 in
theorem setRoom_n (w : World) (n : Int) : Calls Try.prog 32 #[.pointer none, .int .i64 n] w fun e w' => e = .returned (.tuple #[]) ∧ w = w' := by
  go_enter Try.func32, Try.ntmps32
  go_wp2_with fail
  first
  | (go_ret; exact ⟨rfl, rfl⟩)
  | (go_ret2; exact ⟨rfl, rfl⟩)
  | (go_end0; exact ⟨rfl, rfl⟩)
  | (refine bodyPost_ret (results_none rfl _ _ _) rfl ?_; exact ⟨rfl, rfl⟩)
set_option maxRecDepth 100000 in
theorem setFuse_n (w : World) (n : Int) : Calls Try.prog 26 #[.pointer none, .int .i64 n] w fun e w' => e = .returned (.tuple #[]) ∧ w = w' := by
  go_enter Try.func26, Try.ntmps26
  go_wp2_with fail
  first
  | (go_ret; exact ⟨rfl, rfl⟩)
  | (go_ret2; exact ⟨rfl, rfl⟩)
  | (go_end0; exact ⟨rfl, rfl⟩)
  | (refine bodyPost_ret (results_none rfl _ _ _) rfl ?_; exact ⟨rfl, rfl⟩)
set_option maxRecDepth 100000 in
theorem restart_n (w : World) (v : Value) : Calls Try.prog 23 #[.pointer none, v] w fun e w' => e = .returned (.tuple #[]) ∧ w = w' := by
  go_enter Try.func23, Try.ntmps23
  go_wp2_with fail
  first
  | (go_ret; exact ⟨rfl, rfl⟩)
  | (go_ret2; exact ⟨rfl, rfl⟩)
  | (go_end0; exact ⟨rfl, rfl⟩)
  | (refine bodyPost_ret (results_none rfl _ _ _) rfl ?_; exact ⟨rfl, rfl⟩)
set_option maxRecDepth 100000 in
theorem append_n (w : World) (s : ByteArray) (a : Option Addr) (n c : Nat) : Calls Try.prog 13 #[.pointer none, .string s, .slice a n c] w fun e w' => e = .returned (.tuple #[.int .i64 0, .int .i64 8]) ∧ w = w' := by
  go_enter Try.func13, Try.ntmps13
  go_wp2_with fail
  refine (down_n _).mono ?_
  rintro e w1 ⟨rfl, rfl⟩
  go_wp2_with fail
  first
  | (go_ret; exact ⟨rfl, rfl⟩)
  | (go_ret2; exact ⟨rfl, rfl⟩)
  | (go_end0; exact ⟨rfl, rfl⟩)
  | (refine bodyPost_ret (results_none rfl _ _ _) rfl ?_; exact ⟨rfl, rfl⟩)
set_option maxRecDepth 100000 in
theorem read_n (w : World) (s : ByteArray) : Calls Try.prog 24 #[.pointer none, .string s] w fun e w' => e = .returned (.tuple #[.slice none 0 0, .int .i64 8]) ∧ w = w' := by
  go_enter Try.func24, Try.ntmps24
  go_wp2_with fail
  refine (get_n _ _).mono ?_
  rintro e w1 ⟨rfl, rfl⟩
  go_wp2_with fail
  first
  | (go_ret; exact ⟨rfl, rfl⟩)
  | (go_ret2; exact ⟨rfl, rfl⟩)
  | (go_end0; exact ⟨rfl, rfl⟩)
  | (refine bodyPost_ret (results_none rfl _ _ _) rfl ?_; exact ⟨rfl, rfl⟩)
set_option maxRecDepth 100000 in
theorem sync_n (w : World) (s : ByteArray) : Calls Try.prog 22 #[.pointer none, .string s] w fun e w' => e = .returned (.int .i64 8) ∧ w = w' := by
  go_enter Try.func22, Try.ntmps22
  go_wp2_with fail
  refine (change_n _ _).mono ?_
  rintro e w1 ⟨rfl, rfl⟩
  go_wp2_with fail
  first
  | (go_ret; exact ⟨rfl, rfl⟩)
  | (go_ret2; exact ⟨rfl, rfl⟩)
  | (go_end0; exact ⟨rfl, rfl⟩)
  | (refine bodyPost_ret (results_none rfl _ _ _) rfl ?_; exact ⟨rfl, rfl⟩)
set_option maxRecDepth 100000 in
theorem rename_n (w : World) (s t : ByteArray) : Calls Try.prog 33 #[.pointer none, .string s, .string t] w fun e w' => e = .returned (.int .i64 8) ∧ w = w' := by
  go_enter Try.func33, Try.ntmps33
  go_wp2_with fail
  refine (get_n _ _).mono ?_
  rintro e w1 ⟨rfl, rfl⟩
  go_wp2_with fail
  first
  | (go_ret; exact ⟨rfl, rfl⟩)
  | (go_ret2; exact ⟨rfl, rfl⟩)
  | (go_end0; exact ⟨rfl, rfl⟩)
  | (refine bodyPost_ret (results_none rfl _ _ _) rfl ?_; exact ⟨rfl, rfl⟩)
set_option maxRecDepth 100000 in
theorem remove_n (w : World) (s : ByteArray) : Calls Try.prog 34 #[.pointer none, .string s] w fun e w' => e = .returned (.int .i64 8) ∧ w = w' := by
  go_enter Try.func34, Try.ntmps34
  go_wp2_with fail
  refine (change_n _ _).mono ?_
  rintro e w1 ⟨rfl, rfl⟩
  go_wp2_with fail
  first
  | (go_ret; exact ⟨rfl, rfl⟩)
  | (go_ret2; exact ⟨rfl, rfl⟩)
  | (go_end0; exact ⟨rfl, rfl⟩)
  | (refine bodyPost_ret (results_none rfl _ _ _) rfl ?_; exact ⟨rfl, rfl⟩)
set_option maxRecDepth 100000 in
theorem cut_n (w : World) (s : ByteArray) (n : Int) : Calls Try.prog 14 #[.pointer none, .string s, .int .i64 n] w fun e w' => e = .returned (.int .i64 8) ∧ w = w' := by
  go_enter Try.func14, Try.ntmps14
  go_wp2_with fail
  refine (get_n _ _).mono ?_
  rintro e w1 ⟨rfl, rfl⟩
  go_wp2_with fail
  first
  | (go_ret; exact ⟨rfl, rfl⟩)
  | (go_ret2; exact ⟨rfl, rfl⟩)
  | (go_end0; exact ⟨rfl, rfl⟩)
  | (refine bodyPost_ret (results_none rfl _ _ _) rfl ?_; exact ⟨rfl, rfl⟩)
set_option maxRecDepth 100000 in
theorem used_n (w : World) : Calls Try.prog 15 #[.pointer none] w fun e w' => e = .returned (.int .i64 0) ∧ w = w' := by
  go_enter Try.func15, Try.ntmps15
  go_wp2_with fail
  first
  | (go_ret; exact ⟨rfl, rfl⟩)
  | (go_ret2; exact ⟨rfl, rfl⟩)
  | (go_end0; exact ⟨rfl, rfl⟩)
  | (refine bodyPost_ret (results_none rfl _ _ _) rfl ?_; exact ⟨rfl, rfl⟩)
set_option maxRecDepth 100000 in
theorem list_n (w : World) : Calls Try.prog 27 #[.pointer none] w fun e w' => e = .returned (.slice none 0 0) ∧ w = w' := by
  go_enter Try.func27, Try.ntmps27
  go_wp2_with fail
  refine (down_n _).mono ?_
  rintro e w1 ⟨rfl, rfl⟩
  go_wp2_with fail
  first
  | (go_ret; exact ⟨rfl, rfl⟩)
  | (go_ret2; exact ⟨rfl, rfl⟩)
  | (go_end0; exact ⟨rfl, rfl⟩)
  | (refine bodyPost_ret (results_none rfl _ _ _) rfl ?_; exact ⟨rfl, rfl⟩)
end Go.Proofs.Ytjkgcpbgacdgaaa
