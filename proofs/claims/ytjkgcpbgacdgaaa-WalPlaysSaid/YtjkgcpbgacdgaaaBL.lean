/- The wal's awake. No condition. -/
import Derived.Test.YtjkgcpbgacdgaaaBI
namespace Go.Proofs.Ytjkgcpbgacdgaaa
open Go.RowKit
theorem ownBlock_some (b : Nat) (n c : Nat) : (Value.slice (some ⟨b, 0, none⟩) n c).ownBlock = some b := rfl
set_option maxRecDepth 100000 in
theorem awake16 (w : World) : Calls Try.prog 16 #[] w fun e w' => e = .returned (.bool true) ∧ Below w.heap.size w w' := by
  go_enter Try.func16, Try.ntmps16
  go_wp2_with fail
  refine (new 1073741824 _ (by omega)).mono ?_
  rintro e w1 ⟨rfl, hd1, hb1, hs1⟩
  have hmx : max (1073741824 : Int) 0 = 1073741824 := by omega
  rw [hmx] at hd1
  have HD1 := Lib.hid hd1
  have HB1 := Lib.hid hb1
  have HS1 := Lib.hid hs1
  clear hd1 hb1 hs1 hmx
  go_wp2_with fail
  refine (openNew w w1 _ _ _ _ HD1.out (fun k hk => by have := HS1.out; rcases hk with rfl | rfl <;> omega) HB1.out).mono ?_
  rintro e w2 ⟨S, T, l, rfl, hW⟩
  have HW := Lib.hid hW
  have hcv := conv23 #[.int .u8 97] w2
  simp only [List.size_toArray, List.length_cons, List.length_nil, Nat.zero_add, Nat.reduceAdd] at hcv
  clear hW
  go_wp2_with fail
  have hW3 := HW.out.later ((Below.refl _ _).alloc (Nat.le_refl _) (.cells #[.int .u8 97] 5 (1, 2)))
  have hsrc : SrcN (w2.alloc (.cells #[.int .u8 97] 5 (1, 2))) 1 (.slice (some ⟨w2.heap.size, 0, none⟩) 1 1) 1 [.int .u8 97] := SrcN.of_block (cs := #[.int .u8 97]) (heap_alloc_new w2 _) rfl (by simp [Value.oneCell']) 1
  refine (append18 (fun _ => False) w _ S T _ _ [] _ _ _ l 0 _ [] 0 false _ [.int .u8 97] hW3 (by omega) (by omega) (by omega) (by omega) hsrc (by simp [Value.oneCell']) (fun _ g hg => by
    rw [ownBlock_some, Option.some.injEq] at hg
    subst hg
    refine ⟨fun e => ?_, fun e => ?_, by simp⟩
    · have := HW.out.lt _ e; omega
    · have := (HW.out.low l (.inr HW.out.log.here)).2; omega) (by simp) (by simp [lens]) (by simp [maxLen]) (by omega) (by simp)).mono ?_
  rintro e w4 ⟨S', T', L', fuse', down', v', X', size', over', er, rfl, hW4, hsays⟩
  rcases append_ok (z := 0) (.inl ⟨rfl, rfl⟩) rfl (by simp) hsays with ⟨h1, _⟩ | ⟨_, rfl, rfl, rfl, hX, rfl, z', _, rfl, _, _⟩
  · simp at h1
  have hXl : X'.length = 1 := by simpa using congrArg List.length hX
  obtain ⟨va, vc, rfl⟩ := row_form hW4.log.row
  rw [hXl] at hW4
  have HW4 := Lib.hid hW4
  clear hW4 hsays hX hW3 hsrc hcv hXl
  go_wp2_with fail
  refine (next20 w4 l _ 0 _ va 1 vc false HW4.out.log.blk (by omega) (by omega)).mono ?_
  rintro e w5 ⟨rfl, q, rfl⟩
  go_wp2_with fail
  go_ret
  exact ⟨rfl, HW4.out.below.low.trans ((below_dN w4 q).mono HW4.out.below.size)⟩
end Go.Proofs.Ytjkgcpbgacdgaaa
