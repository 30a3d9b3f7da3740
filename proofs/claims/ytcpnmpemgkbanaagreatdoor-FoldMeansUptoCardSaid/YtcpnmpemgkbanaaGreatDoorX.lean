/- The walk of FoldMeans. Conditions: the table of blanks is as the text lays it; the input's bulk. -/
import Derived.Test.YtcpnmpemgkbanaaGreatDoorV
import Derived.Test.YtcpnmpemgkbanaaGreatDoorT
namespace Go.Proofs.YtcpnmpemgkbanaaGreatDoor
open Go.RowKit Go.Sort Go.WideShapes Go.ChangeShapes Go.Deep Go.Joins
theorem foldl_low_mem (l : List Int) (a : Int) : l.foldl (fun a v => ltV v a) a = a ∨ l.foldl (fun a v => ltV v a) a ∈ l := by
  induction l generalizing a with
  | nil => exact .inl rfl
  | cons x r ih =>
    rw [List.foldl_cons]
    rcases ih (ltV x a) with h | h
    · have : ltV x a = a ∨ ltV x a = x := by unfold ltV; split <;> simp
      rcases this with e | e
      · left; rw [h, e]
      · right; rw [h, e]; exact List.mem_cons_self ..
    · right; exact List.mem_cons_of_mem _ h
theorem lowL_mem (l : List Int) (h : l ≠ []) : lowL l ∈ l := by
  cases l with
  | nil => exact absurd rfl h
  | cons x r =>
    rcases foldl_low_mem r x with e | e
    · show r.foldl (fun a v => ltV v a) x ∈ x :: r
      rw [e]; exact List.mem_cons_self ..
    · exact List.mem_cons_of_mem _ e
theorem foldl_high_mem (l : List Int) (a : Int) : l.foldl (fun a v => gtV v a) a = a ∨ l.foldl (fun a v => gtV v a) a ∈ l := by
  induction l generalizing a with
  | nil => exact .inl rfl
  | cons x r ih =>
    rw [List.foldl_cons]
    rcases ih (gtV x a) with h | h
    · have : gtV x a = a ∨ gtV x a = x := by unfold gtV; split <;> simp
      rcases this with e | e
      · left; rw [h, e]
      · right; rw [h, e]; exact List.mem_cons_self ..
    · right; exact List.mem_cons_of_mem _ h
theorem highL_mem (l : List Int) (h : l ≠ []) : highL l ∈ l := by
  cases l with
  | nil => exact absurd rfl h
  | cons x r =>
    rcases foldl_high_mem r x with e | e
    · show r.foldl (fun a v => gtV v a) x ∈ x :: r
      rw [e]; exact List.mem_cons_self ..
    · exact List.mem_cons_of_mem _ e
theorem lowL_eq {l l' : List Int} (h : ∀ v, v ∈ l ↔ v ∈ l') (hl : l ≠ []) (hl' : l' ≠ []) : lowL l = lowL l' := by
  have h1 := lowL_le l _ ((h _).2 (lowL_mem l' hl'))
  have h2 := lowL_le l' _ ((h _).1 (lowL_mem l hl))
  omega
theorem highL_eq {l l' : List Int} (h : ∀ v, v ∈ l ↔ v ∈ l') (hl : l ≠ []) (hl' : l' ≠ []) : highL l = highL l' := by
  have h1 := highL_ge l _ ((h _).2 (highL_mem l' hl'))
  have h2 := highL_ge l' _ ((h _).1 (highL_mem l hl))
  omega
def nm5 : List ByteArray := [⟨#[77, 69, 65, 78]⟩, ⟨#[77, 73, 78]⟩, ⟨#[77, 65, 88]⟩, ⟨#[67, 79, 85, 78, 84]⟩, ⟨#[83, 85, 77]⟩]
/-- The five aggregates don't hang on the values' order. -/
theorem agg_five (nm : ByteArray) (hnm : nm ∈ nm5) (n : Nat) (zs : List Int) (hz : zs.length = n) (hsm : ∀ v ∈ zs, v.natAbs ≤ 32768) (hn : n ≤ 1048576) :
    ∃ (K B : Int) (ok : Bool), ∀ (W : World) (A : Option Addr) (c : Nat) (zs' : List Int), zs'.length = n → (∀ v, v ∈ zs' ↔ v ∈ zs) → zs'.sum = zs.sum → Vals W A n zs' → Lib.TabIs Tryz.prog W "strings.asciiSpace" .u8 Lib.asciiSpaceTab → Calls Tryz.prog 9 #[.string nm, .slice A n c] W (AggPost W K B ok) := by
  have hin : ∀ zs' : List Int, (∀ v, v ∈ zs' ↔ v ∈ zs) → ∀ v ∈ zs', inI v := fun zs' hm v hv => by
    have := hsm v ((hm v).1 hv)
    unfold inI lo63
    omega
  by_cases h0 : n = 0
  · simp only [nm5, List.mem_cons, List.mem_nil_iff, or_false] at hnm
    rcases hnm with rfl | rfl | rfl | rfl | rfl
    · exact ⟨0, 0, false, fun W A c zs' hl hm hs hv ht => agg_MEAN_nil W A n c zs' hl (hin zs' hm) (by omega) h0 hv ht⟩
    · exact ⟨0, 0, false, fun W A c zs' hl hm hs hv ht => agg_MIN_nil W A n c zs' hl (hin zs' hm) (by omega) h0 hv ht⟩
    · exact ⟨0, 0, false, fun W A c zs' hl hm hs hv ht => agg_MAX_nil W A n c zs' hl (hin zs' hm) (by omega) h0 hv ht⟩
    · exact ⟨2, n, true, fun W A c zs' hl hm hs hv ht => agg_COUNT W A n c zs' hl (hin zs' hm) (by omega) hv ht⟩
    · exact ⟨0, 0, false, fun W A c zs' hl hm hs hv ht => agg_SUM_nil W A n c zs' hl (hin zs' hm) (by omega) h0 hv ht⟩
  · have h1 : 1 ≤ n := by omega
    have hne : ∀ zs' : List Int, zs'.length = n → zs' ≠ [] := fun zs' hl e => by rw [e] at hl; simp at hl; omega
    simp only [nm5, List.mem_cons, List.mem_nil_iff, or_false] at hnm
    rcases hnm with rfl | rfl | rfl | rfl | rfl
    · refine ⟨1, (fdiv (fI zs.sum) (fI n) : Nat), true, fun W A c zs' hl hm hs hv ht => ?_⟩
      have := agg_MEAN W A n c zs' hl (hin zs' hm) (by omega) h1 (fun v hv => hsm v ((hm v).1 hv)) hn hv ht
      rw [hs] at this
      exact this
    · refine ⟨2, uw (lowL zs), true, fun W A c zs' hl hm hs hv ht => ?_⟩
      have := agg_MIN W A n c zs' hl (hin zs' hm) (by omega) h1 hv ht
      rw [lowL_eq hm (hne _ hl) (hne _ hz)] at this
      exact this
    · refine ⟨2, uw (highL zs), true, fun W A c zs' hl hm hs hv ht => ?_⟩
      have := agg_MAX W A n c zs' hl (hin zs' hm) (by omega) h1 hv ht
      rw [highL_eq hm (hne _ hl) (hne _ hz)] at this
      exact this
    · exact ⟨2, n, true, fun W A c zs' hl hm hs hv ht => agg_COUNT W A n c zs' hl (hin zs' hm) (by omega) hv ht⟩
    · refine ⟨2, uw zs.sum, true, fun W A c zs' hl hm hs hv ht => ?_⟩
      have := agg_SUM W A n c zs' hl (hin zs' hm) (by omega) h1 hv ht
      rw [wsum_sum, hs] at this
      exact this
def nmC5 : Array Value := #[.string ⟨#[77, 69, 65, 78]⟩, .string ⟨#[77, 73, 78]⟩, .string ⟨#[77, 65, 88]⟩, .string ⟨#[67, 79, 85, 78, 84]⟩, .string ⟨#[83, 85, 77]⟩]
theorem nm_at (i : Nat) (h : i < 5) : ∃ nm, nm ∈ nm5 ∧ nmC5[i]? = some (.string nm) := by
  have : i = 0 ∨ i = 1 ∨ i = 2 ∨ i = 3 ∨ i = 4 := by omega
  rcases this with rfl | rfl | rfl | rfl | rfl <;> exact ⟨_, by simp [nm5], rfl⟩
def sumK (g : Nat → Int) : Nat → Int
  | 0 => 0
  | k + 1 => sumK g k + g k
theorem sumK_bd (g : Nat → Int) (n : Nat) (h : ∀ i, i < n → -32768 ≤ g i ∧ g i ≤ 32767) : ∀ k, k ≤ n → -32768 * (k : Int) ≤ sumK g k ∧ sumK g k ≤ 32768 * (k : Int)
  | 0, _ => by simp [sumK]
  | k + 1, hk => by
    have h1 := sumK_bd g n h k (by omega)
    have h2 := h k (by omega)
    simp only [sumK]
    omega
theorem sumK_sum (g : Nat → Int) : ∀ k, ((List.range k).map g).sum = sumK g k
  | 0 => rfl
  | k + 1 => by rw [List.range_succ, List.map_append, List.sum_append, sumK_sum g k]; simp [sumK]
theorem mem_rev (g : Nat → Int) (n : Nat) (v : Int) : v ∈ ((List.range n).map fun j => g (n - 1 - j)) ↔ v ∈ (List.range n).map g := by
  simp only [List.mem_map, List.mem_range]
  constructor
  · rintro ⟨j, hj, rfl⟩; exact ⟨n - 1 - j, by omega, rfl⟩
  · rintro ⟨j, hj, rfl⟩; exact ⟨n - 1 - j, by omega, by congr 1; omega⟩
set_option maxRecDepth 100000 in
set_option maxHeartbeats 4000000 in
theorem foldMeans_walk (H : Type) (enc : TypeId × Value → H) (W : World) (base : Nat) (v0 : Value) (d0 : DataW H) (p0 : List MemPlace) (h0 : DataW.Trod enc Tryz.prog W 0 (fun _ => true) true 32 v0 d0 p0) (o0 : Value.okWide Tryz.prog W .any base 32 v0) (hk : Rows.uptoSmall H [d0] = true) (hL : laidMetH Tryz.prog Laid.lst W) :
    Calls Tryz.prog 4 #[v0] W fun e w' => e = .returned (.bool true) ∧ Below W.heap.size W w' := by
  obtain ⟨a, n, cap, g, rfl, hn, hz⟩ := ints_upto Tryz.underlying32 Tryz.underlying33 (by kernel_rfl) h0 o0 hk
  obtain ⟨i0, hi, hz0, hz1, hz2⟩ := info_parts info27
  have HI := Lib.hid hi
  have HZ0 := Lib.hid hz0
  have HZ1 := Lib.hid hz1
  have HZ2 := Lib.hid hz2
  have HZ := Lib.hid hz
  have HGB := Lib.hid (show ∀ i, i < n → -32768 ≤ g i ∧ g i ≤ 32767 from fun i hi => by
    obtain ⟨_, _, _, _, _, hw⟩ := hz i hi
    simpa [Lit.wf, IntKind.min, IntKind.max, IntKind.signed, IntKind.bits] using hw)
  have HTAB := Lib.hid (Laid.space hL)
  clear h0 o0 hk hL hi hz0 hz1 hz2 hz
  go_enter Tryz.func4, Tryz.ntmps4
  go_wp2_with fail
  refine (awake8 W HTAB.out).mono ?_
  rintro e w1 ⟨rfl, hb1⟩
  have HB1 := Lib.hid hb1
  clear hb1
  go_wp2_with fail
  go_loopw [3, 4, 5, 22] (fun v u s i wr => ∃ (k c d : Nat) (x y : Option Addr), k ≤ n ∧ i = .int .i64 k ∧ v = .slice x k c ∧ u = .slice y k d ∧ s = .int .i64 (sumK g k) ∧ TwoR W g n k v u wr) (fun _ _ _ i _ => n - (intOf i).toNat)
  case atStart => exact ⟨0, 0, 0, none, none, Nat.zero_le _, rfl, rfl, rfl, rfl, World.ownsRow_nil _ _ _ _, World.ownsRow_nil _ _ _ _, fun x hx => by simp [Value.ownBlock] at hx, HB1.out⟩
  case round =>
    obtain ⟨k, c, d, x, y, hk, rfl, rfl, rfl, rfl, hA⟩ := hrel
    have HA := Lib.hid hA
    have hsz := hA.below.size
    by_cases hlt : k < n
    · obtain ⟨b, off, rfl, hbw, hc1, hwf1⟩ := HZ.out k hlt
      obtain ⟨b', off', hA', hbw', hc2, hwf2⟩ := HZ.out (n - 1 - k) (by omega)
      cases hA'
      have e1 : wr.cell? ⟨b, off + k, none⟩ = some (.int .i16 (g k)) := (hA.below.cell (p := ⟨b, _, none⟩) hbw).trans hc1
      have e2 : ∀ w6, Below W.heap.size W w6 → w6.cell? ⟨b, off + (n - 1 - k), none⟩ = some (.int .i16 (g (n - 1 - k))) := fun w6 h6 => (h6.cell (p := ⟨b, _, none⟩) hbw).trans hc2
      have E2 := Lib.hid e2
      have hb1 := HGB.out k hlt
      have hb2 := HGB.out (n - 1 - k) (by omega)
      have hbs := sumK_bd g n HGB.out k (by omega)
      have HSN := Lib.hid (show sumK g (k + 1) = sumK g k + g k from rfl)
      obtain ⟨s, hs⟩ : ∃ s, sumK g k = s := ⟨_, rfl⟩
      obtain ⟨z1, hz1⟩ : ∃ z1, g k = z1 := ⟨_, rfl⟩
      obtain ⟨z2, hz2⟩ : ∃ z2, g (n - 1 - k) = z2 := ⟨_, rfl⟩
      rw [hs] at hbs HSN ⊢
      rw [hz1] at e1 hb1 HSN
      rw [hz2] at E2 hb2
      have HG1 := Lib.hid hz1
      have HG2 := Lib.hid hz2
      clear hA hc1 hc2 hz1 hz2 e2 hbw hbw' hs
      have j1 : 0 ≤ (n : Int) - 1 - k := by omega
      have j2 : ((n : Int) - 1 - k).toNat = n - 1 - k := by omega
      have j3 : (n : Int) - 1 - k < n := by omega
      go_wp2_with (first | (at_builtin; (refine wpList_append_own_at _ rfl (.tmp 32) (.tmp 40) 24 rfl W.heap.size 27 i0 _ 3 32 Tryz.underlying24 HI.out HZ0.out HZ1.out HZ2.out rfl (by omega) _ k _ rfl (World.ownsRow.alloc HA.out.a _) ⟨wr.heap.size, 0, none⟩ 1 1 [.int .i64 2, .int .u64 (IntKind.u64.wrap z1), .string ⟨#[]⟩] rfl rfl (World.news_of_block (cs := #[.int .i64 2, .int .u64 (IntKind.u64.wrap z1), .string ⟨#[]⟩]) (t := 27) (fr := (0, 0)) (heap_alloc_new wr _)) (by simp [Value.oneCell']) (by unfold maxLen; omega) (by omega) (by simp; omega) ?_); intro v6 w6 hown6 hgrow6 hnn hat6; clear hnn; obtain ⟨n1, n2, n3, n4⟩ := HA.out.nextA hown6 hgrow6 hat6; have HO6 := Lib.hid hown6; have HU6 := Lib.hid n1; have HP6 := Lib.hid n2; have HB6 := Lib.hid n3; have e3 := E2.out w6 n3; clear hown6 hgrow6 hat6 n1 n2 n3) | (at_builtin; go_must (refine wpList_append_own_at _ rfl (.tmp 42) (.tmp 54) 24 rfl W.heap.size 27 i0 _ 3 32 Tryz.underlying24 HI.out HZ0.out HZ1.out HZ2.out rfl (by omega) _ k _ rfl (World.ownsRow.alloc HU6.out _) ⟨w6.heap.size, 0, none⟩ 1 1 [.int .i64 2, .int .u64 (IntKind.u64.wrap z2), .string ⟨#[]⟩] rfl rfl (World.news_of_block (cs := #[.int .i64 2, .int .u64 (IntKind.u64.wrap z2), .string ⟨#[]⟩]) (t := 27) (fr := (0, 0)) (heap_alloc_new w6 _)) (by simp [Value.oneCell']) (by unfold maxLen; omega) (by omega) (by simp; omega) ?_); intro u8 w8 hown8 hgrow8 hnn hat8; clear hnn; have HR := Lib.hid (TwoR.nextB (by have := HO6.out; rw [← HG1.out] at this; exact this) HU6.out HP6.out HB6.out (by have := hown8; rw [← HG2.out] at this; exact this) hgrow8 hat8); clear hown8 hgrow8 hat8))
      obtain ⟨x6, c6, hv6⟩ := own_form HR.out.a
      obtain ⟨x8, c8, hu8⟩ := own_form HR.out.b
      subst hv6 hu8
      go_roundw
      case rel => exact ⟨k + 1, c6, c8, x6, x8, by omega, by go_num, rfl, rfl, by rw [HSN.out], HR.out⟩
      case measure => simp [intOf]; omega
    · obtain rfl : n = k := by omega
      obtain ⟨xs, hxs0⟩ : ∃ xs, (List.range n).map g = xs := ⟨_, rfl⟩
      obtain ⟨ys, hys0⟩ : ∃ ys, ((List.range n).map fun j => g (n - 1 - j)) = ys := ⟨_, rfl⟩
      have HXS := Lib.hid hxs0
      have HYS := Lib.hid hys0
      have HSS := Lib.hid (show xs.sum = sumK g n from by rw [← hxs0]; exact sumK_sum g n)
      have HSM := Lib.hid (show ys.sum = xs.sum from by rw [← hxs0, ← hys0, sum_rev])
      have HME := Lib.hid (show ∀ v, v ∈ ys ↔ v ∈ xs from fun v => by rw [← hxs0, ← hys0]; exact mem_rev g n v)
      have HSX := Lib.hid (show ∀ v ∈ xs, v.natAbs ≤ 32768 from by
        intro v hv
        rw [← hxs0] at hv
        obtain ⟨i, hi, rfl⟩ := List.mem_map.1 hv
        have := HGB.out i (by simpa using hi)
        omega)
      have HLX := Lib.hid (show xs.length = n by rw [← hxs0]; simp)
      have HLY := Lib.hid (show ys.length = n by rw [← hys0]; simp)
      have HINX := Lib.hid (show ∀ v ∈ xs, inI v from fun v hv => by
        have := HSX.out v hv
        unfold inI lo63
        omega)
      have hbs := sumK_bd g n HGB.out n (by omega)
      obtain ⟨s, hs⟩ : ∃ s, sumK g n = s := ⟨_, rfl⟩
      rw [hs] at hbs HSS ⊢
      clear hA hxs0 hys0 hs
      go_wp2_with fail
      by_cases hn0 : n = 0
      · have hn1 : n ≤ 0 := by omega
        have hn3 : decide (0 < n) = false := by simp; omega
        refine (agg_MEAN_nil wr x n c xs HLX.out HINX.out (by omega) hn0 (by rw [← HXS.out]; exact vals_own HA.out.a) (tab_later HTAB.out HA.out.below)).mono ?_
        rintro e w2 ⟨rfl, hb2⟩
        have HA2 := Lib.hid ((HA.out.later hb2).later ((Below.refl _ _).alloc (Nat.le_refl _) (.cells #[.int .i64 0, .int .u64 0, .string ⟨#[]⟩] 27)))
        clear hb2 hn0
        go_wp2_with fail
        refine wp_gen (TwoR W g n n (.slice x n c) (.slice y n d)) HA2.out ?_
        intro w3 h3
        have HA3 := Lib.hid h3
        clear h3
        go_quiet (fail)
        go_wp2_with fail
        refine wp_gen (fun w7 => TwoR W g n n (.slice x n c) (.slice y n d) w7 ∧ w7.heap[w3.heap.size]? = some (.cells nmC5 9 (0, 0))) ⟨(HA3.out.later ⟨rfl, rfl, rfl, Nat.le_refl _, fun _ _ => rfl⟩ : TwoR W g n n (.slice x n c) (.slice y n d) (w3.drewN nq)).later ((Below.refl _ _).alloc (Nat.le_refl _) _), heap_alloc_new _ _⟩ ?_
        rintro w7 ⟨h7, hc7⟩
        obtain ⟨nb, hnb⟩ : ∃ nb, w3.heap.size = nb := ⟨_, rfl⟩
        rw [hnb] at hc7 ⊢
        have H7 := Lib.hid h7
        have HC7 := Lib.hid hc7
        clear h7 hc7 hnb
        go_loopw [89] (fun i wr => ∃ j : Nat, j ≤ 5 ∧ i = .int .i64 j ∧ TwoR W g n n (.slice x n c) (.slice y n d) wr ∧ wr.heap[nb]? = some (.cells nmC5 9 (0, 0))) (fun i _ => 5 - (intOf i).toNat)
        case atStart => exact ⟨0, by omega, rfl, H7.out, HC7.out⟩
        case round =>
          obtain ⟨j, hj, rfl, hA, hC⟩ := hrel
          have HA8 := Lib.hid hA
          have HC8 := Lib.hid hC
          by_cases hlt2 : j < 5
          · obtain ⟨nm, hnm, hcell⟩ := nm_at j hlt2
            have e1 : wr.cell? ⟨nb, j, none⟩ = some (.string nm) := by
              simp only [World.cell?, hC]
              exact hcell
            obtain ⟨K, B, ok, hag⟩ := agg_five nm hnm n xs HLX.out HSX.out hn
            have HAG := Lib.hid hag
            clear hA hC hcell hag
            go_wp2_with fail
            refine (HAG.out wr x c xs HLX.out (fun _ => Iff.rfl) rfl (by rw [← HXS.out]; exact vals_own HA8.out.a) (tab_later HTAB.out HA8.out.below)).mono ?_
            rintro e w9 ⟨rfl, hb9⟩
            have HA9 := Lib.hid ((HA8.out.later hb9).later ((Below.refl _ _).alloc (Nat.le_refl _) (.cells #[.int .i64 K, .int .u64 B, .string ⟨#[]⟩] 27)))
            have hc9 : (w9.alloc (.cells #[.int .i64 K, .int .u64 B, .string ⟨#[]⟩] 27)).heap[nb]? = some (.cells nmC5 9 (0, 0)) := (Below.heap_alloc w9 _ nb (Nat.lt_of_lt_of_le (heap_lt HC8.out) hb9.size)).trans ((hb9.block nb (heap_lt HC8.out)).trans HC8.out)
            have HC9 := Lib.hid hc9
            have e2 : w9.cell? ⟨nb, j, none⟩ = some (.string nm) := (hb9.cell (p := ⟨nb, j, none⟩) (heap_lt HC8.out)).trans e1
            have l9 : nb < w9.heap.size := Nat.lt_of_lt_of_le (heap_lt HC8.out) hb9.size
            have hv1 : (w9.alloc (.cells #[.int .i64 K, .int .u64 B, .string ⟨#[]⟩] 27)).heap[w9.heap.size]? = some (.cells #[.int .i64 K, .int .u64 B, .string ⟨#[]⟩] 27 (0, 0)) := heap_alloc_new w9 _
            have HV1 := Lib.hid hv1
            clear hb9 hc9 e1 hv1
            go_wp2_with fail
            refine (HAG.out _ y d ys HLY.out HME.out HSM.out (by rw [← HYS.out]; exact vals_own HA9.out.b) (tab_later HTAB.out HA9.out.below)).mono ?_
            rintro e w10 ⟨rfl, hb10⟩
            have keep : ∀ q o, (w9.alloc (.cells #[.int .i64 K, .int .u64 B, .string ⟨#[]⟩] 27)).heap[q]? = some o → w10.heap[q]? = some o := fun q o h => (hb10.block q (heap_lt h)).trans h
            have HA10 := Lib.hid ((HA9.out.later hb10).later ((Below.refl _ _).alloc (Nat.le_refl _) (.cells #[.int .i64 K, .int .u64 B, .string ⟨#[]⟩] 27)))
            have u1 := keep _ _ HV1.out
            have u2 := keep _ _ HC9.out
            have HC10 := Lib.hid ((Below.heap_alloc w10 (.cells #[.int .i64 K, .int .u64 B, .string ⟨#[]⟩] 27) nb (heap_lt u2)).trans u2)
            have f0 : w10.cell? ⟨w9.heap.size, 0, none⟩ = some (.int .i64 K) := by simp [World.cell?, u1]
            have f1 : w10.cell? ⟨w9.heap.size, 1, none⟩ = some (.int .u64 B) := by simp [World.cell?, u1]
            have f2 : w10.cell? ⟨w9.heap.size, 2, none⟩ = some (.string ⟨#[]⟩) := by simp [World.cell?, u1]
            have l1 := heap_lt u1
            clear hb10 keep u1 u2 e2
            go_wp2_with fail
            go_roundw
            case rel => exact ⟨j + 1, by omega, by go_num, HA10.out, HC10.out⟩
            case measure => simp [intOf]; omega
          · clear hA hC
            go_wp2_with fail
            go_ret
            exact ⟨rfl, HA8.out.below⟩
      · have hn1 : 1 ≤ n := by omega
        have hn3 : decide (0 < n) = true := by simp; omega
        have HDV := Lib.hid (fdiv_int xs.sum n (by have := sum_bd xs HSX.out (by rw [HLX.out]; exact hn); omega) hn1 (by omega))
        refine (agg_MEAN wr x n c xs HLX.out HINX.out (by omega) hn1 HSX.out hn (by rw [← HXS.out]; exact vals_own HA.out.a) (tab_later HTAB.out HA.out.below)).mono ?_
        rw [HSS.out] at HDV ⊢
        have hdv : ∀ w : World, (binOp .quo 35 (.float .f64 (floatOfInt .f64 s)) (.float .f64 (floatOfInt .f64 (n : Int)))).run Tryz.prog w = .ok (.float .f64 (fdiv (fI s) (fI n))) w := fun w => run_float_arith w .quo 35 .f64 _ _ _ HDV.out.1
        obtain ⟨Q, hQ⟩ : ∃ Q, fdiv (fI s) (fI n) = Q := ⟨_, rfl⟩
        rw [hQ] at hdv ⊢
        rintro e w2 ⟨rfl, hb2⟩
        have HA2 := Lib.hid ((HA.out.later hb2).later ((Below.refl _ _).alloc (Nat.le_refl _) (.cells #[.int .i64 1, .int .u64 (Q : Int), .string ⟨#[]⟩] 27)))
        have hv2 : (w2.alloc (.cells #[.int .i64 1, .int .u64 (Q : Int), .string ⟨#[]⟩] 27)).heap[w2.heap.size]? = some (.cells #[.int .i64 1, .int .u64 (Q : Int), .string ⟨#[]⟩] 27 (0, 0)) := heap_alloc_new w2 _
        have HV2 := Lib.hid hv2
        clear hb2 hn0 hQ hv2
        go_wp2_with fail
        refine wp_gen (fun w3 => TwoR W g n n (.slice x n c) (.slice y n d) w3 ∧ w3.heap[w2.heap.size]? = some (.cells #[.int .i64 1, .int .u64 (Q : Int), .string ⟨#[]⟩] 27 (0, 0))) ⟨HA2.out, HV2.out⟩ ?_
        rintro w3 ⟨h3, hv3⟩
        have HA3 := Lib.hid h3
        obtain ⟨mb, hmb⟩ : ∃ mb, w2.heap.size = mb := ⟨_, rfl⟩
        rw [hmb] at hv3 ⊢
        have m0 := cell_regrown (show w3.cell? ⟨mb, 0, none⟩ = some (.int .i64 1) by simp [World.cell?, hv3])
        have m1 := cell_regrown (show w3.cell? ⟨mb, 1, none⟩ = some (.int .u64 (Q : Int)) by simp [World.cell?, hv3])
        have m2 := cell_regrown (show w3.cell? ⟨mb, 2, none⟩ = some (.string ⟨#[]⟩) by simp [World.cell?, hv3])
        have HOF := Lib.hid (fun w => (of10 Q w).mono fun e w' (h : e = _ ∧ _) => (⟨h.1, by rw [h.2]; exact (Below.refl _ _).alloc (Nat.le_refl _) _⟩ : e = _ ∧ Below w.heap.size w w'))
        unfold vFl at HOF
        have cO := fun d os => Calls.regrown_of (HOF.out (grow (redrawn w3 d) os))
        have hlow : (0 : Int) < n := by omega
        clear h3 hv3 hmb HA2 HV2
        refine wp_region_quiet_below (by kernel_rfl) (by kernel_rfl) ?_
        repeat (go_big_quiet_step ((first | with_reducible exact cO _ _)))
        refine wpQuiet_nil ?_
        intro w4 hw4
        have hb4 := below_of_regrown hw4
        have HA4 := Lib.hid (HA3.out.later hb4)
        clear m0 m1 m2 cO hw4 hb4
        go_wp2_with fail
        refine wp_gen (fun w7 => TwoR W g n n (.slice x n c) (.slice y n d) w7 ∧ w7.heap[w4.heap.size]? = some (.cells nmC5 9 (0, 0))) ⟨HA4.out.later ((Below.refl _ _).alloc (Nat.le_refl _) _), heap_alloc_new _ _⟩ ?_
        rintro w7 ⟨h7, hc7⟩
        obtain ⟨nb, hnb⟩ : ∃ nb, w4.heap.size = nb := ⟨_, rfl⟩
        rw [hnb] at hc7 ⊢
        have H7 := Lib.hid h7
        have HC7 := Lib.hid hc7
        clear h7 hc7 hnb
        go_loopw [89] (fun i wr => ∃ j : Nat, j ≤ 5 ∧ i = .int .i64 j ∧ TwoR W g n n (.slice x n c) (.slice y n d) wr ∧ wr.heap[nb]? = some (.cells nmC5 9 (0, 0))) (fun i _ => 5 - (intOf i).toNat)
        case atStart => exact ⟨0, by omega, rfl, H7.out, HC7.out⟩
        case round =>
          obtain ⟨j, hj, rfl, hA, hC⟩ := hrel
          have HA8 := Lib.hid hA
          have HC8 := Lib.hid hC
          by_cases hlt2 : j < 5
          · obtain ⟨nm, hnm, hcell⟩ := nm_at j hlt2
            have e1 : wr.cell? ⟨nb, j, none⟩ = some (.string nm) := by
              simp only [World.cell?, hC]
              exact hcell
            obtain ⟨K, B, ok, hag⟩ := agg_five nm hnm n xs HLX.out HSX.out hn
            have HAG := Lib.hid hag
            clear hA hC hcell hag
            go_wp2_with fail
            refine (HAG.out wr x c xs HLX.out (fun _ => Iff.rfl) rfl (by rw [← HXS.out]; exact vals_own HA8.out.a) (tab_later HTAB.out HA8.out.below)).mono ?_
            rintro e w9 ⟨rfl, hb9⟩
            have HA9 := Lib.hid ((HA8.out.later hb9).later ((Below.refl _ _).alloc (Nat.le_refl _) (.cells #[.int .i64 K, .int .u64 B, .string ⟨#[]⟩] 27)))
            have hc9 : (w9.alloc (.cells #[.int .i64 K, .int .u64 B, .string ⟨#[]⟩] 27)).heap[nb]? = some (.cells nmC5 9 (0, 0)) := (Below.heap_alloc w9 _ nb (Nat.lt_of_lt_of_le (heap_lt HC8.out) hb9.size)).trans ((hb9.block nb (heap_lt HC8.out)).trans HC8.out)
            have HC9 := Lib.hid hc9
            have e2 : w9.cell? ⟨nb, j, none⟩ = some (.string nm) := (hb9.cell (p := ⟨nb, j, none⟩) (heap_lt HC8.out)).trans e1
            have l9 : nb < w9.heap.size := Nat.lt_of_lt_of_le (heap_lt HC8.out) hb9.size
            have hv1 : (w9.alloc (.cells #[.int .i64 K, .int .u64 B, .string ⟨#[]⟩] 27)).heap[w9.heap.size]? = some (.cells #[.int .i64 K, .int .u64 B, .string ⟨#[]⟩] 27 (0, 0)) := heap_alloc_new w9 _
            have HV1 := Lib.hid hv1
            clear hb9 hc9 e1 hv1
            go_wp2_with fail
            refine (HAG.out _ y d ys HLY.out HME.out HSM.out (by rw [← HYS.out]; exact vals_own HA9.out.b) (tab_later HTAB.out HA9.out.below)).mono ?_
            rintro e w10 ⟨rfl, hb10⟩
            have keep : ∀ q o, (w9.alloc (.cells #[.int .i64 K, .int .u64 B, .string ⟨#[]⟩] 27)).heap[q]? = some o → w10.heap[q]? = some o := fun q o h => (hb10.block q (heap_lt h)).trans h
            have HA10 := Lib.hid ((HA9.out.later hb10).later ((Below.refl _ _).alloc (Nat.le_refl _) (.cells #[.int .i64 K, .int .u64 B, .string ⟨#[]⟩] 27)))
            have u1 := keep _ _ HV1.out
            have u2 := keep _ _ HC9.out
            have HC10 := Lib.hid ((Below.heap_alloc w10 (.cells #[.int .i64 K, .int .u64 B, .string ⟨#[]⟩] 27) nb (heap_lt u2)).trans u2)
            have f0 : w10.cell? ⟨w9.heap.size, 0, none⟩ = some (.int .i64 K) := by simp [World.cell?, u1]
            have f1 : w10.cell? ⟨w9.heap.size, 1, none⟩ = some (.int .u64 B) := by simp [World.cell?, u1]
            have f2 : w10.cell? ⟨w9.heap.size, 2, none⟩ = some (.string ⟨#[]⟩) := by simp [World.cell?, u1]
            have l1 := heap_lt u1
            clear hb10 keep u1 u2 e2
            go_wp2_with fail
            go_roundw
            case rel => exact ⟨j + 1, by omega, by go_num, HA10.out, HC10.out⟩
            case measure => simp [intOf]; omega
          · clear hA hC
            go_wp2_with fail
            go_ret
            exact ⟨rfl, HA8.out.below⟩
end Go.Proofs.YtcpnmpemgkbanaaGreatDoor
