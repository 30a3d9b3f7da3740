/- The walk of FoldEnds. Conditions: the table of blanks is as the text lays it; the input's bulk. -/
import Derived.Test.YtcpnmpemgkbanaaGreatDoorS
import Derived.Maps.AppendAt
namespace Go.Proofs.YtcpnmpemgkbanaaGreatDoor
open Go.RowKit Go.Sort Go.WideShapes Go.ChangeShapes Go.Deep Go.Joins
/-- The two rows that are laid. -/
structure TwoR (W : World) (g : Nat → Int) (n k : Nat) (v u : Value) (wr : World) : Prop where
  a : wr.ownsRow W.heap.size 27 3 v k (cellsL (FI g) k)
  b : wr.ownsRow W.heap.size 27 3 u k (cellsL (FI fun j => g (n - 1 - j)) k)
  ap : ∀ x, v.ownBlock = some x → u.ownBlock ≠ some x
  below : Below W.heap.size W wr
theorem TwoR.nextA {W wr w6 : World} {g : Nat → Int} {n k : Nat} {v u v6 : Value} {o : Obj} {xs : List Value} (h : TwoR W g n k v u wr) (ho : w6.ownsRow W.heap.size 27 3 v6 (k + 1) xs) (hg : (wr.alloc o).grownBy w6 v.ownBlock) (hat : v6.ownBlock = v.ownBlock ∨ v6.ownBlock = some (wr.alloc o).heap.size) :
    w6.ownsRow W.heap.size 27 3 u k (cellsL (FI fun j => g (n - 1 - j)) k) ∧ (∀ x, v6.ownBlock = some x → u.ownBlock ≠ some x) ∧ Below W.heap.size W w6 ∧ W.heap.size ≤ w6.heap.size := by
  have hb : (wr.alloc o).ownsRow W.heap.size 27 3 u k (cellsL (FI fun j => g (n - 1 - j)) k) := World.ownsRow.alloc h.b o
  have ha : (wr.alloc o).ownsRow W.heap.size 27 3 v k (cellsL (FI g) k) := World.ownsRow.alloc h.a o
  have hB : Below W.heap.size W w6 := (h.below.alloc h.below.size o).grown hg (by simp; have := h.below.size; omega) (fun j hj => own_ge ha hj)
  refine ⟨ownsRow_same hb fun x hx => hg.block x (own_lt hb hx) (fun e => h.ap x e.symm hx), fun x hx hu => ?_, hB, hB.size⟩
  rcases hat with e | e
  · rw [e] at hx
    exact h.ap x hx hu
  · rw [e] at hx
    injection hx with hx
    have := own_lt hb hu
    omega
theorem TwoR.nextB {W w6 w8 : World} {g : Nat → Int} {n k : Nat} {v6 u u8 : Value} {o : Obj} (ha : w6.ownsRow W.heap.size 27 3 v6 (k + 1) (cellsL (FI g) (k + 1))) (hu : w6.ownsRow W.heap.size 27 3 u k (cellsL (FI fun j => g (n - 1 - j)) k)) (hap : ∀ x, v6.ownBlock = some x → u.ownBlock ≠ some x) (hB : Below W.heap.size W w6)
    (h8 : w8.ownsRow W.heap.size 27 3 u8 (k + 1) (cellsL (FI fun j => g (n - 1 - j)) (k + 1))) (hg : (w6.alloc o).grownBy w8 u.ownBlock) (hat : u8.ownBlock = u.ownBlock ∨ u8.ownBlock = some (w6.alloc o).heap.size) : TwoR W g n (k + 1) v6 u8 w8 := by
  have ha' : (w6.alloc o).ownsRow W.heap.size 27 3 v6 (k + 1) (cellsL (FI g) (k + 1)) := World.ownsRow.alloc ha o
  have hu' : (w6.alloc o).ownsRow W.heap.size 27 3 u k (cellsL (FI fun j => g (n - 1 - j)) k) := World.ownsRow.alloc hu o
  refine ⟨ownsRow_same ha' fun x hx => hg.block x (own_lt ha' hx) (fun e => hap x hx e.symm), h8, fun x hx hu2 => ?_, (hB.alloc hB.size o).grown hg (by simp; have := hB.size; omega) (fun j hj => own_ge hu' hj)⟩
  rcases hat with e | e
  · rw [e] at hu2
    exact hap x hx hu2
  · rw [e] at hu2
    injection hu2 with hu2
    have := own_lt ha' hx
    omega
theorem TwoR.later {W w w' : World} {g : Nat → Int} {n k : Nat} {v u : Value} (h : TwoR W g n k v u w) (hb : Below w.heap.size w w') : TwoR W g n k v u w' :=
  ⟨own_later h.a hb, own_later h.b hb, h.ap, h.below.trans (hb.mono h.below.size)⟩
set_option maxRecDepth 100000 in
set_option maxHeartbeats 4000000 in
theorem foldEnds_walk (H : Type) (enc : TypeId × Value → H) (W : World) (base : Nat) (v0 : Value) (d0 : DataW H) (p0 : List MemPlace) (h0 : DataW.Trod enc Tryz.prog W 0 (fun _ => true) true 22 v0 d0 p0) (o0 : Value.okWide Tryz.prog W .any base 22 v0) (hk : Rows.uptoSmall H [d0] = true) (hL : laidMetH Tryz.prog Laid.lst W) :
    Calls Tryz.prog 3 #[v0] W fun e w' => e = .returned (.bool true) ∧ Below W.heap.size W w' := by
  obtain ⟨a, n, cap, g, rfl, hn, hz⟩ := ints_upto Tryz.underlying22 Tryz.underlying2 (by kernel_rfl) h0 o0 hk
  obtain ⟨i0, hi, hz0, hz1, hz2⟩ := info_parts info27
  have HI := Lib.hid hi
  have HZ0 := Lib.hid hz0
  have HZ1 := Lib.hid hz1
  have HZ2 := Lib.hid hz2
  have HZ := Lib.hid hz
  have HTAB := Lib.hid (Laid.space hL)
  clear h0 o0 hk hL hi hz0 hz1 hz2 hz
  go_enter Tryz.func3, Tryz.ntmps3
  go_wp2_with fail
  refine (awake8 W HTAB.out).mono ?_
  rintro e w1 ⟨rfl, hb1⟩
  have HB1 := Lib.hid hb1
  clear hb1
  go_wp2_with fail
  go_loopw [3, 4, 26] (fun v u i wr => ∃ (k c d : Nat) (x y : Option Addr), k ≤ n ∧ i = .int .i64 k ∧ v = .slice x k c ∧ u = .slice y k d ∧ TwoR W g n k v u wr) (fun _ _ i _ => n - (intOf i).toNat)
  case atStart => exact ⟨0, 0, 0, none, none, Nat.zero_le _, rfl, rfl, rfl, World.ownsRow_nil _ _ _ _, World.ownsRow_nil _ _ _ _, fun x hx => by simp [Value.ownBlock] at hx, HB1.out⟩
  case round =>
    obtain ⟨k, c, d, x, y, hk, rfl, rfl, rfl, hA⟩ := hrel
    have HA := Lib.hid hA
    have hsz := hA.below.size
    by_cases hlt : k < n
    · obtain ⟨b, off, rfl, hbw, hc1, hwf1⟩ := HZ.out k hlt
      obtain ⟨b', off', hA', hbw', hc2, hwf2⟩ := HZ.out (n - 1 - k) (by omega)
      cases hA'
      have e1 : wr.cell? ⟨b, off + k, none⟩ = some (.int .i64 (g k)) := (hA.below.cell (p := ⟨b, _, none⟩) hbw).trans hc1
      have e2 : ∀ w6, Below W.heap.size W w6 → w6.cell? ⟨b, off + (n - 1 - k), none⟩ = some (.int .i64 (g (n - 1 - k))) := fun w6 h6 => (h6.cell (p := ⟨b, _, none⟩) hbw).trans hc2
      have E2 := Lib.hid e2
      obtain ⟨z1, hz1⟩ : ∃ z1, g k = z1 := ⟨_, rfl⟩
      obtain ⟨z2, hz2⟩ : ∃ z2, g (n - 1 - k) = z2 := ⟨_, rfl⟩
      rw [hz1] at e1
      rw [hz2] at E2
      have HG1 := Lib.hid hz1
      have HG2 := Lib.hid hz2
      have j0 : ((n : Int) - 1 - k) = ((n - 1 - k : Nat) : Int) := by omega
      clear hA hc1 hc2 hz1 hz2 e2 hbw hbw'
      have j1 : 0 ≤ (n : Int) - 1 - k := by omega
      have j2 : ((n : Int) - 1 - k).toNat = n - 1 - k := by omega
      have j3 : (n : Int) - 1 - k < n := by omega
      clear j0
      go_wp2_with (first | (at_builtin; (refine wpList_append_own_at _ rfl (.tmp 29) (.tmp 36) 24 rfl W.heap.size 27 i0 _ 3 32 Tryz.underlying24 HI.out HZ0.out HZ1.out HZ2.out rfl (by omega) _ k _ rfl (World.ownsRow.alloc HA.out.a _) ⟨wr.heap.size, 0, none⟩ 1 1 [.int .i64 2, .int .u64 (IntKind.u64.wrap z1), .string ⟨#[]⟩] rfl rfl (World.news_of_block (cs := #[.int .i64 2, .int .u64 (IntKind.u64.wrap z1), .string ⟨#[]⟩]) (t := 27) (fr := (0, 0)) (heap_alloc_new wr _)) (by simp [Value.oneCell']) (by unfold maxLen; omega) (by omega) (by simp; omega) ?_); intro v6 w6 hown6 hgrow6 hnn hat6; clear hnn; obtain ⟨n1, n2, n3, n4⟩ := HA.out.nextA hown6 hgrow6 hat6; have HO6 := Lib.hid hown6; have HU6 := Lib.hid n1; have HP6 := Lib.hid n2; have HB6 := Lib.hid n3; have e3 := E2.out w6 n3; clear hown6 hgrow6 hat6 n1 n2 n3) | (at_builtin; go_must (refine wpList_append_own_at _ rfl (.tmp 38) (.tmp 49) 24 rfl W.heap.size 27 i0 _ 3 32 Tryz.underlying24 HI.out HZ0.out HZ1.out HZ2.out rfl (by omega) _ k _ rfl (World.ownsRow.alloc HU6.out _) ⟨w6.heap.size, 0, none⟩ 1 1 [.int .i64 2, .int .u64 (IntKind.u64.wrap z2), .string ⟨#[]⟩] rfl rfl (World.news_of_block (cs := #[.int .i64 2, .int .u64 (IntKind.u64.wrap z2), .string ⟨#[]⟩]) (t := 27) (fr := (0, 0)) (heap_alloc_new w6 _)) (by simp [Value.oneCell']) (by unfold maxLen; omega) (by omega) (by simp; omega) ?_); intro u8 w8 hown8 hgrow8 hnn hat8; clear hnn; have HR := Lib.hid (TwoR.nextB (by have := HO6.out; rw [← HG1.out] at this; exact this) HU6.out HP6.out HB6.out (by have := hown8; rw [← HG2.out] at this; exact this) hgrow8 hat8); clear hown8 hgrow8 hat8))
      obtain ⟨x6, c6, hv6⟩ := own_form HR.out.a
      obtain ⟨x8, c8, hu8⟩ := own_form HR.out.b
      subst hv6 hu8
      go_roundw
      case rel => exact ⟨k + 1, c6, c8, x6, x8, by omega, by go_num, rfl, rfl, HR.out⟩
      case measure => simp [intOf]; omega
    · obtain rfl : n = k := by omega
      obtain ⟨xs, hxs0⟩ : ∃ xs, (List.range n).map g = xs := ⟨_, rfl⟩
      obtain ⟨ys, hys0⟩ : ∃ ys, ((List.range n).map fun j => g (n - 1 - j)) = ys := ⟨_, rfl⟩
      have HXS := Lib.hid hxs0
      have HYS := Lib.hid hys0
      have HWF := Lib.hid (fun i (hi : i < n) => (show inI (g i) from by obtain ⟨_, _, _, _, _, hw⟩ := HZ.out i hi; exact i64_wf hw))
      have HIX := Lib.hid (show ∀ v ∈ xs, inI v from by
        intro v hv
        rw [← hxs0] at hv
        obtain ⟨i, hi, rfl⟩ := List.mem_map.1 hv
        exact HWF.out i (by simpa using hi))
      have HIY := Lib.hid (show ∀ v ∈ ys, inI v from by
        intro v hv
        rw [← hys0] at hv
        obtain ⟨i, hi, rfl⟩ := List.mem_map.1 hv
        exact HWF.out _ (by have : i < n := by simpa using hi
                            omega))
      have HSUM := Lib.hid (show wsum xs = wsum ys from by rw [wsum_sum, wsum_sum, ← hxs0, ← hys0, sum_rev])
      clear hA hxs0 hys0
      go_wp2_with fail
      by_cases hn0 : n = 0
      · have hn1 : n ≤ 0 := by omega
        have hn2 : ((n : Int) == 0) = true := by simp; omega
        have hn3 : decide (0 < n) = false := by simp; omega
        clear hn0 hn2
        have hxs : xs.length = n := by rw [← HXS.out]; simp
        have hys : ys.length = n := by rw [← HYS.out]; simp
        refine (agg_MIN_nil wr x n c xs hxs HIX.out (by omega) (by omega) (by rw [← HXS.out]; exact vals_own HA.out.a) (tab_later HTAB.out HA.out.below)).mono ?_
        rintro e w2 ⟨rfl, hb2⟩
        have HA2 := Lib.hid ((HA.out.later hb2).later ((Below.refl _ _).alloc (Nat.le_refl _) (.cells #[.int .i64 0, .int .u64 0, .string ⟨#[]⟩] 27)))
        have hv1 : (w2.alloc (.cells #[.int .i64 0, .int .u64 0, .string ⟨#[]⟩] 27)).heap[w2.heap.size]? = some (.cells #[.int .i64 0, .int .u64 0, .string ⟨#[]⟩] 27 (0, 0)) := heap_alloc_new w2 _
        have HV1 := Lib.hid hv1
        obtain ⟨x1, hx1⟩ : ∃ x1, w2.heap.size = x1 := ⟨_, rfl⟩
        rw [hx1] at HV1
        have HX1 := Lib.hid hx1
        clear hb2 hv1 hx1
        go_wp2_with fail
        rw [HX1.out]
        refine (agg_MAX_nil _ x n c xs hxs HIX.out (by omega) (by omega) (by rw [← HXS.out]; exact vals_own HA2.out.a) (tab_later HTAB.out HA2.out.below)).mono ?_
        rintro e w3 ⟨rfl, hb3⟩
        have HA3 := Lib.hid ((HA2.out.later hb3).later ((Below.refl _ _).alloc (Nat.le_refl _) (.cells #[.int .i64 0, .int .u64 0, .string ⟨#[]⟩] 27)))
        have HV1b := Lib.hid ((Below.heap_alloc w3 (.cells #[.int .i64 0, .int .u64 0, .string ⟨#[]⟩] 27) x1 (Nat.lt_of_lt_of_le (heap_lt HV1.out) hb3.size)).trans ((hb3.block x1 (heap_lt HV1.out)).trans HV1.out))
        have hv2 : (w3.alloc (.cells #[.int .i64 0, .int .u64 0, .string ⟨#[]⟩] 27)).heap[w3.heap.size]? = some (.cells #[.int .i64 0, .int .u64 0, .string ⟨#[]⟩] 27 (0, 0)) := heap_alloc_new w3 _
        have HV2 := Lib.hid hv2
        obtain ⟨x2, hx2⟩ : ∃ x2, w3.heap.size = x2 := ⟨_, rfl⟩
        rw [hx2] at HV2
        have HX2 := Lib.hid hx2
        clear hb3 hv2 hx2
        go_wp2_with fail
        rw [HX2.out]
        refine (agg_SUM_nil _ x n c xs hxs HIX.out (by omega) (by omega) (by rw [← HXS.out]; exact vals_own HA3.out.a) (tab_later HTAB.out HA3.out.below)).mono ?_
        rintro e w4 ⟨rfl, hb4⟩
        have HA4 := Lib.hid ((HA3.out.later hb4).later ((Below.refl _ _).alloc (Nat.le_refl _) (.cells #[.int .i64 0, .int .u64 0, .string ⟨#[]⟩] 27)))
        have keep4 : ∀ q o, (w3.alloc (.cells #[.int .i64 0, .int .u64 0, .string ⟨#[]⟩] 27)).heap[q]? = some o → (w4.alloc (.cells #[.int .i64 0, .int .u64 0, .string ⟨#[]⟩] 27)).heap[q]? = some o := fun q o h => (Below.heap_alloc w4 _ q (Nat.lt_of_lt_of_le (heap_lt h) hb4.size)).trans ((hb4.block q (heap_lt h)).trans h)
        have HV1c := Lib.hid (keep4 _ _ HV1b.out)
        have HV2c := Lib.hid (keep4 _ _ HV2.out)
        have hv3 : (w4.alloc (.cells #[.int .i64 0, .int .u64 0, .string ⟨#[]⟩] 27)).heap[w4.heap.size]? = some (.cells #[.int .i64 0, .int .u64 0, .string ⟨#[]⟩] 27 (0, 0)) := heap_alloc_new w4 _
        have HV3 := Lib.hid hv3
        obtain ⟨x3, hx3⟩ : ∃ x3, w4.heap.size = x3 := ⟨_, rfl⟩
        rw [hx3] at HV3
        have HX3 := Lib.hid hx3
        clear hb4 hv3 hx3 keep4
        go_wp2_with fail
        rw [HX3.out]
        refine (agg_SUM_nil _ y n d ys hys HIY.out (by omega) (by omega) (by rw [← HYS.out]; exact vals_own HA4.out.b) (tab_later HTAB.out HA4.out.below)).mono ?_
        rintro e w5 ⟨rfl, hb5⟩
        have HA5 := Lib.hid ((HA4.out.later hb5).later ((Below.refl _ _).alloc (Nat.le_refl _) (.cells #[.int .i64 0, .int .u64 0, .string ⟨#[]⟩] 27)))
        have keep5 : ∀ q o, (w4.alloc (.cells #[.int .i64 0, .int .u64 0, .string ⟨#[]⟩] 27)).heap[q]? = some o → (w5.alloc (.cells #[.int .i64 0, .int .u64 0, .string ⟨#[]⟩] 27)).heap[q]? = some o := fun q o h => (Below.heap_alloc w5 _ q (Nat.lt_of_lt_of_le (heap_lt h) hb5.size)).trans ((hb5.block q (heap_lt h)).trans h)
        have HV1d := Lib.hid (keep5 _ _ HV1c.out)
        have HV2d := Lib.hid (keep5 _ _ HV2c.out)
        have HV3d := Lib.hid (keep5 _ _ HV3.out)
        have hv4 : (w5.alloc (.cells #[.int .i64 0, .int .u64 0, .string ⟨#[]⟩] 27)).heap[w5.heap.size]? = some (.cells #[.int .i64 0, .int .u64 0, .string ⟨#[]⟩] 27 (0, 0)) := heap_alloc_new w5 _
        have HV4 := Lib.hid hv4
        obtain ⟨x4, hx4⟩ : ∃ x4, w5.heap.size = x4 := ⟨_, rfl⟩
        rw [hx4] at HV4
        have HX4 := Lib.hid hx4
        clear hb5 hv4 hx4 keep5
        go_wp2_with fail
        rw [HX4.out]
        refine (agg_COUNT _ x n c xs hxs HIX.out (by omega) (by rw [← HXS.out]; exact vals_own HA5.out.a) (tab_later HTAB.out HA5.out.below)).mono ?_
        rintro e w6 ⟨rfl, hb6⟩
        have keep6 : ∀ q o, (w5.alloc (.cells #[.int .i64 0, .int .u64 0, .string ⟨#[]⟩] 27)).heap[q]? = some o → w6.heap[q]? = some o := fun q o h => (hb6.block q (heap_lt h)).trans h
        have HA6 := Lib.hid (HA5.out.later hb6)
        have u1 := keep6 _ _ HV1d.out
        have u2 := keep6 _ _ HV2d.out
        have u3 := keep6 _ _ HV3d.out
        have u4 := keep6 _ _ HV4.out
        have f10 : w6.cell? ⟨x1, 0, none⟩ = some (.int .i64 0) := by simp [World.cell?, u1]
        have f11 : w6.cell? ⟨x1, 1, none⟩ = some (.int .u64 0) := by simp [World.cell?, u1]
        have f12 : w6.cell? ⟨x1, 2, none⟩ = some (.string ⟨#[]⟩) := by simp [World.cell?, u1]
        have f20 : w6.cell? ⟨x2, 0, none⟩ = some (.int .i64 0) := by simp [World.cell?, u2]
        have f21 : w6.cell? ⟨x2, 1, none⟩ = some (.int .u64 0) := by simp [World.cell?, u2]
        have f22 : w6.cell? ⟨x2, 2, none⟩ = some (.string ⟨#[]⟩) := by simp [World.cell?, u2]
        have f30 : w6.cell? ⟨x3, 0, none⟩ = some (.int .i64 0) := by simp [World.cell?, u3]
        have f31 : w6.cell? ⟨x3, 1, none⟩ = some (.int .u64 0) := by simp [World.cell?, u3]
        have f32 : w6.cell? ⟨x3, 2, none⟩ = some (.string ⟨#[]⟩) := by simp [World.cell?, u3]
        have f40 : w6.cell? ⟨x4, 0, none⟩ = some (.int .i64 0) := by simp [World.cell?, u4]
        have f41 : w6.cell? ⟨x4, 1, none⟩ = some (.int .u64 0) := by simp [World.cell?, u4]
        have f42 : w6.cell? ⟨x4, 2, none⟩ = some (.string ⟨#[]⟩) := by simp [World.cell?, u4]
        have l1 := heap_lt u1
        have l2 := heap_lt u2
        have l3 := heap_lt u3
        have l4 := heap_lt u4
        clear hb6 keep6 u1 u2 u3 u4
        go_wp2_with fail
        have hbA := HA6.out.below.alloc HA6.out.below.size (.cells #[.int .i64 2, .int .u64 (n : Int), .string ⟨#[]⟩] 27)
        refine wp_gen (fun w7 => Below W.heap.size W w7) hbA ?_
        clear f10 f11 f12 f20 f21 f22 f30 f31 f32 f40 f41 f42 l1 l2 l3 l4 hbA
        intro w7 hb7
        have HB7 := Lib.hid hb7
        clear hb7 hxs hys
        go_loopw [110] (fun i wr => i = .int .i64 0 ∧ wr = w7) (fun i _ => n - (intOf i).toNat)
        case atStart => exact ⟨rfl, rfl⟩
        case round =>
          obtain ⟨rfl, rfl⟩ := hrel
          go_wp2_with fail
          go_ret
          exact ⟨rfl, HB7.out⟩
      · have hn1 : 1 ≤ n := by omega
        clear hn0
        obtain ⟨lo, hlo⟩ : ∃ lo, uw (lowL xs) = lo := ⟨_, rfl⟩
        obtain ⟨hi, hhi⟩ : ∃ hi, uw (highL xs) = hi := ⟨_, rfl⟩
        obtain ⟨sm, hsm⟩ : ∃ sm, wsum xs = sm := ⟨_, rfl⟩
        have HLO := Lib.hid hlo
        have HHI := Lib.hid hhi
        have HSM := Lib.hid hsm
        clear hlo hhi hsm
        have hxs : xs.length = n := by rw [← HXS.out]; simp
        have hys : ys.length = n := by rw [← HYS.out]; simp
        refine (agg_MIN wr x n c xs hxs HIX.out (by omega) (by omega) (by rw [← HXS.out]; exact vals_own HA.out.a) (tab_later HTAB.out HA.out.below)).mono ?_
        rw [HLO.out]
        rintro e w2 ⟨rfl, hb2⟩
        have HA2 := Lib.hid ((HA.out.later hb2).later ((Below.refl _ _).alloc (Nat.le_refl _) (.cells #[.int .i64 2, .int .u64 lo, .string ⟨#[]⟩] 27)))
        have hv1 : (w2.alloc (.cells #[.int .i64 2, .int .u64 lo, .string ⟨#[]⟩] 27)).heap[w2.heap.size]? = some (.cells #[.int .i64 2, .int .u64 lo, .string ⟨#[]⟩] 27 (0, 0)) := heap_alloc_new w2 _
        have HV1 := Lib.hid hv1
        obtain ⟨x1, hx1⟩ : ∃ x1, w2.heap.size = x1 := ⟨_, rfl⟩
        rw [hx1] at HV1
        have HX1 := Lib.hid hx1
        clear hb2 hv1 hx1
        go_wp2_with fail
        rw [HX1.out]
        refine (agg_MAX _ x n c xs hxs HIX.out (by omega) (by omega) (by rw [← HXS.out]; exact vals_own HA2.out.a) (tab_later HTAB.out HA2.out.below)).mono ?_
        rw [HHI.out]
        rintro e w3 ⟨rfl, hb3⟩
        have HA3 := Lib.hid ((HA2.out.later hb3).later ((Below.refl _ _).alloc (Nat.le_refl _) (.cells #[.int .i64 2, .int .u64 hi, .string ⟨#[]⟩] 27)))
        have HV1b := Lib.hid ((Below.heap_alloc w3 (.cells #[.int .i64 2, .int .u64 hi, .string ⟨#[]⟩] 27) x1 (Nat.lt_of_lt_of_le (heap_lt HV1.out) hb3.size)).trans ((hb3.block x1 (heap_lt HV1.out)).trans HV1.out))
        have hv2 : (w3.alloc (.cells #[.int .i64 2, .int .u64 hi, .string ⟨#[]⟩] 27)).heap[w3.heap.size]? = some (.cells #[.int .i64 2, .int .u64 hi, .string ⟨#[]⟩] 27 (0, 0)) := heap_alloc_new w3 _
        have HV2 := Lib.hid hv2
        obtain ⟨x2, hx2⟩ : ∃ x2, w3.heap.size = x2 := ⟨_, rfl⟩
        rw [hx2] at HV2
        have HX2 := Lib.hid hx2
        clear hb3 hv2 hx2
        go_wp2_with fail
        rw [HX2.out]
        refine (agg_SUM _ x n c xs hxs HIX.out (by omega) (by omega) (by rw [← HXS.out]; exact vals_own HA3.out.a) (tab_later HTAB.out HA3.out.below)).mono ?_
        rw [HSM.out]
        rintro e w4 ⟨rfl, hb4⟩
        have HA4 := Lib.hid ((HA3.out.later hb4).later ((Below.refl _ _).alloc (Nat.le_refl _) (.cells #[.int .i64 2, .int .u64 sm, .string ⟨#[]⟩] 27)))
        have keep4 : ∀ q o, (w3.alloc (.cells #[.int .i64 2, .int .u64 hi, .string ⟨#[]⟩] 27)).heap[q]? = some o → (w4.alloc (.cells #[.int .i64 2, .int .u64 sm, .string ⟨#[]⟩] 27)).heap[q]? = some o := fun q o h => (Below.heap_alloc w4 _ q (Nat.lt_of_lt_of_le (heap_lt h) hb4.size)).trans ((hb4.block q (heap_lt h)).trans h)
        have HV1c := Lib.hid (keep4 _ _ HV1b.out)
        have HV2c := Lib.hid (keep4 _ _ HV2.out)
        have hv3 : (w4.alloc (.cells #[.int .i64 2, .int .u64 sm, .string ⟨#[]⟩] 27)).heap[w4.heap.size]? = some (.cells #[.int .i64 2, .int .u64 sm, .string ⟨#[]⟩] 27 (0, 0)) := heap_alloc_new w4 _
        have HV3 := Lib.hid hv3
        obtain ⟨x3, hx3⟩ : ∃ x3, w4.heap.size = x3 := ⟨_, rfl⟩
        rw [hx3] at HV3
        have HX3 := Lib.hid hx3
        clear hb4 hv3 hx3 keep4
        go_wp2_with fail
        rw [HX3.out]
        refine (agg_SUM _ y n d ys hys HIY.out (by omega) (by omega) (by rw [← HYS.out]; exact vals_own HA4.out.b) (tab_later HTAB.out HA4.out.below)).mono ?_
        rw [← HSUM.out, HSM.out]
        rintro e w5 ⟨rfl, hb5⟩
        have HA5 := Lib.hid ((HA4.out.later hb5).later ((Below.refl _ _).alloc (Nat.le_refl _) (.cells #[.int .i64 2, .int .u64 sm, .string ⟨#[]⟩] 27)))
        have keep5 : ∀ q o, (w4.alloc (.cells #[.int .i64 2, .int .u64 sm, .string ⟨#[]⟩] 27)).heap[q]? = some o → (w5.alloc (.cells #[.int .i64 2, .int .u64 sm, .string ⟨#[]⟩] 27)).heap[q]? = some o := fun q o h => (Below.heap_alloc w5 _ q (Nat.lt_of_lt_of_le (heap_lt h) hb5.size)).trans ((hb5.block q (heap_lt h)).trans h)
        have HV1d := Lib.hid (keep5 _ _ HV1c.out)
        have HV2d := Lib.hid (keep5 _ _ HV2c.out)
        have HV3d := Lib.hid (keep5 _ _ HV3.out)
        have hv4 : (w5.alloc (.cells #[.int .i64 2, .int .u64 sm, .string ⟨#[]⟩] 27)).heap[w5.heap.size]? = some (.cells #[.int .i64 2, .int .u64 sm, .string ⟨#[]⟩] 27 (0, 0)) := heap_alloc_new w5 _
        have HV4 := Lib.hid hv4
        obtain ⟨x4, hx4⟩ : ∃ x4, w5.heap.size = x4 := ⟨_, rfl⟩
        rw [hx4] at HV4
        have HX4 := Lib.hid hx4
        clear hb5 hv4 hx4 keep5
        go_wp2_with fail
        rw [HX4.out]
        refine (agg_COUNT _ x n c xs hxs HIX.out (by omega) (by rw [← HXS.out]; exact vals_own HA5.out.a) (tab_later HTAB.out HA5.out.below)).mono ?_
        rintro e w6 ⟨rfl, hb6⟩
        have keep6 : ∀ q o, (w5.alloc (.cells #[.int .i64 2, .int .u64 sm, .string ⟨#[]⟩] 27)).heap[q]? = some o → w6.heap[q]? = some o := fun q o h => (hb6.block q (heap_lt h)).trans h
        have HA6 := Lib.hid (HA5.out.later hb6)
        have u1 := keep6 _ _ HV1d.out
        have u2 := keep6 _ _ HV2d.out
        have u3 := keep6 _ _ HV3d.out
        have u4 := keep6 _ _ HV4.out
        have f10 : w6.cell? ⟨x1, 0, none⟩ = some (.int .i64 2) := by simp [World.cell?, u1]
        have f11 : w6.cell? ⟨x1, 1, none⟩ = some (.int .u64 lo) := by simp [World.cell?, u1]
        have f12 : w6.cell? ⟨x1, 2, none⟩ = some (.string ⟨#[]⟩) := by simp [World.cell?, u1]
        have f20 : w6.cell? ⟨x2, 0, none⟩ = some (.int .i64 2) := by simp [World.cell?, u2]
        have f21 : w6.cell? ⟨x2, 1, none⟩ = some (.int .u64 hi) := by simp [World.cell?, u2]
        have f22 : w6.cell? ⟨x2, 2, none⟩ = some (.string ⟨#[]⟩) := by simp [World.cell?, u2]
        have f30 : w6.cell? ⟨x3, 0, none⟩ = some (.int .i64 2) := by simp [World.cell?, u3]
        have f31 : w6.cell? ⟨x3, 1, none⟩ = some (.int .u64 sm) := by simp [World.cell?, u3]
        have f32 : w6.cell? ⟨x3, 2, none⟩ = some (.string ⟨#[]⟩) := by simp [World.cell?, u3]
        have f40 : w6.cell? ⟨x4, 0, none⟩ = some (.int .i64 2) := by simp [World.cell?, u4]
        have f41 : w6.cell? ⟨x4, 1, none⟩ = some (.int .u64 sm) := by simp [World.cell?, u4]
        have f42 : w6.cell? ⟨x4, 2, none⟩ = some (.string ⟨#[]⟩) := by simp [World.cell?, u4]
        have l1 := heap_lt u1
        have l2 := heap_lt u2
        have l3 := heap_lt u3
        have l4 := heap_lt u4
        clear hb6 keep6 u1 u2 u3 u4
        go_wp2_with fail
        have hbA := HA6.out.below.alloc HA6.out.below.size (.cells #[.int .i64 2, .int .u64 (n : Int), .string ⟨#[]⟩] 27)
        refine wp_gen (fun w7 => Below W.heap.size W w7 ∧ w7.cell? ⟨x1, 1, none⟩ = some (.int .u64 lo) ∧ w7.cell? ⟨x2, 1, none⟩ = some (.int .u64 hi)) ⟨hbA, (World.cell?_alloc_lt w6 _ _ l1).trans f11, (World.cell?_alloc_lt w6 _ _ l2).trans f21⟩ ?_
        clear f10 f11 f12 f20 f21 f22 f30 f31 f32 f40 f41 f42 l1 l2 l3 l4 hbA
        rintro w7 ⟨hb7, f11, f21⟩
        have HB7 := Lib.hid hb7
        have hne : xs ≠ [] := by
          intro h0
          rw [h0] at hxs
          simp at hxs
          omega
        have hwl : wrap64 lo = lowL xs := by rw [← HLO.out]; exact sw_uw _ (lowL_in xs HIX.out hne)
        have hwh : wrap64 hi = highL xs := by rw [← HHI.out]; exact sw_uw _ (highL_in xs HIX.out hne)
        have HLE := Lib.hid (lowL_le xs)
        have HGE := Lib.hid (highL_ge xs)
        obtain ⟨ll, hll⟩ : ∃ ll, lowL xs = ll := ⟨_, rfl⟩
        obtain ⟨hh, hhh⟩ : ∃ hh, highL xs = hh := ⟨_, rfl⟩
        rw [hll] at hwl HLE
        rw [hhh] at hwh HGE
        clear hb7 hne hll hhh hxs hys
        go_loopw [110] (fun i wr => ∃ j q : Nat, j ≤ n ∧ i = .int .i64 j ∧ wr = w7.drewN q) (fun i _ => n - (intOf i).toNat)
        case atStart => exact ⟨0, 0, Nat.zero_le _, rfl, rfl⟩
        case round =>
          obtain ⟨j, q, hj, rfl, rfl⟩ := hrel
          by_cases hlt2 : j < n
          · obtain ⟨b, off, rfl, hbw, hc1, _⟩ := HZ.out j hlt2
            have e1 : w7.cell? ⟨b, off + j, none⟩ = some (.int .i64 (g j)) := (HB7.out.cell (p := ⟨b, _, none⟩) hbw).trans hc1
            have m1 := HLE.out (g j) (by rw [← HXS.out]; exact List.mem_map.2 ⟨j, by simpa using hlt2, rfl⟩)
            have m2 := HGE.out (g j) (by rw [← HXS.out]; exact List.mem_map.2 ⟨j, by simpa using hlt2, rfl⟩)
            obtain ⟨z, hzz⟩ : ∃ z, g j = z := ⟨_, rfl⟩
            rw [hzz] at e1 m1 m2
            have hwl2 : IntKind.i64.wrap lo = ll := by rw [IntKind.wrap_i64, ← hwl]; unfold wrap64; omega
            have hwh2 : IntKind.i64.wrap hi = hh := by rw [IntKind.wrap_i64, ← hwh]; unfold wrap64; omega
            have dd1 : decide (z < ll) = false := by simp; omega
            have dd2 : decide (hh < z) = false := by simp; omega
            clear hzz hc1 hbw
            go_wp2_with fail
            go_quiet (fail)
            go_wp2_with fail
            refine ⟨⟨j + 1, _, by omega, by go_num, rfl⟩, by simp [intOf]; omega⟩
          · go_wp2_with fail
            go_ret
            exact ⟨rfl, HB7.out.os, HB7.out.tape, HB7.out.output, HB7.out.size, HB7.out.block⟩
end Go.Proofs.YtcpnmpemgkbanaaGreatDoor
