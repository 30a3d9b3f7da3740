/- The walk of FoldTiles. Condition: the table of blanks is as the text lays it. -/
import Derived.Test.YtcpnmpemgkbanaaGreatDoorK
import Derived.Test.YtcpnmpemgkbanaaGreatDoorJ
import Derived.Deep.Slices
namespace Go.Proofs.YtcpnmpemgkbanaaGreatDoor
open Go.RowKit Go.Sort Go.WideShapes Go.ChangeShapes Go.Deep
theorem cell_lt {w : World} {a : Addr} {v : Value} (h : w.cell? a = some v) : a.block < w.heap.size := World.block_lt_of_cell? w _ h
/-- A slice of whole numbers that came in. -/
theorem ints_open {H : Type} {enc : TypeId × Value → H} {W : World} {P : Program} {base : Nat} {t e : TypeId} {k : IntKind} {v : Value} {d : DataW H} {p : List MemPlace} (ht : P.underlying t = some (.slice e)) (he : P.underlying e = some (.int k)) (hc : P.cellsOf e = 1)
    (h : DataW.Trod enc P W 0 (fun _ => true) true t v d p) (o : Value.okWide P W .any base t v) :
    ∃ (a : Option Addr) (n cap : Nat) (zs : List Int), v = .slice a n cap ∧ n ≤ cap ∧ cap ≤ maxLen ∧ ∀ i, i < n → ∃ b off, a = some ⟨b, off, none⟩ ∧ b < W.heap.size ∧ W.cell? ⟨b, off + i, none⟩ = some (.int k (zs.getD i 0)) ∧ (Lit.int k (zs.getD i 0)).wf = true := by
  obtain ⟨a, len, cap, rfl⟩ := okWide_slice ht o
  obtain ⟨fuel, hf⟩ := h
  rcases open_ints ht he hc hf with ⟨hcs, _⟩ | ⟨b, l, c, zs, hcs, _, hl, hm, hzl, _, hx, hwf⟩
  · simp [Value.cells] at hcs
    obtain ⟨rfl, rfl, rfl⟩ := hcs
    exact ⟨none, 0, 0, [], rfl, by omega, by unfold maxLen; omega, fun i hi => absurd hi (by omega)⟩
  · simp [Value.cells] at hcs
    obtain ⟨rfl, rfl, rfl⟩ := hcs
    simp only [if_true] at hzl
    refine ⟨_, len, cap, zs, rfl, hl, hm, fun i hi => ?_⟩
    have h1 := hx i (by omega)
    have hsp : b.spot = none := World.cell?_spot (by have := hx 0 (by omega); simpa [Addr.add] using this)
    obtain ⟨bb, off, spot⟩ := b
    simp only at hsp
    subst hsp
    have e1 : ((⟨bb, off, none⟩ : Addr).add i) = ⟨bb, off + i, none⟩ := by unfold Addr.add; split <;> simp_all
    rw [e1] at h1
    refine ⟨bb, off, rfl, by have := cell_lt h1; exact this, h1, ?_⟩
    have : zs.getD i 0 = zs[i]'(by omega) := by simp [List.getD, List.getElem?_eq_getElem (show i < zs.length by omega)]
    rw [this]
    exact hwf _ (List.getElem_mem _)
theorem cells25 : Tryz.prog.cellsOf 25 = 1 := by kernel_rfl
set_option maxRecDepth 100000 in
set_option maxHeartbeats 1000000 in
theorem foldTiles_walk (H : Type) (enc : TypeId × Value → H) (W : World) (base : Nat) (v0 v1 v2 v3 : Value) (d0 d1 d2 d3 : DataW H) (p0 p1 p2 p3 : List MemPlace)
    (h0 : DataW.Trod enc Tryz.prog W 0 (fun _ => true) true 2 v0 d0 p0) (o0 : Value.okWide Tryz.prog W .any base 2 v0) (h1 : DataW.Trod enc Tryz.prog W 0 (fun _ => true) true 2 v1 d1 p1) (o1 : Value.okWide Tryz.prog W .any base 2 v1)
    (h2 : DataW.Trod enc Tryz.prog W 0 (fun _ => true) true 25 v2 d2 p2) (o2 : Value.okWide Tryz.prog W .any base 25 v2) (h3 : DataW.Trod enc Tryz.prog W 0 (fun _ => true) true 47 v3 d3 p3) (o3 : Value.okWide Tryz.prog W .any base 47 v3) (hL : laidMetH Tryz.prog Laid.lst W) :
    Calls Tryz.prog 7 #[v0, v1, v2, v3] W fun e w' => e = .returned (.bool true) ∧ Below W.heap.size W w' := by
  obtain ⟨f0, rfl, rfl, rfl, wf0⟩ := open_int Tryz.underlying2 o0 h0
  obtain ⟨w0, rfl, rfl, rfl, wf1⟩ := open_int Tryz.underlying2 o1 h1
  obtain ⟨far, rfl, rfl, rfl, wf2⟩ := open_int Tryz.underlying25 o2 h2
  obtain ⟨a, n, cap, zs, rfl, hnc, hcm, hz⟩ := ints_open Tryz.underlying47 Tryz.underlying25 cells25 h3 o3
  have hf := i64_wf wf0
  have hw := i64_wf wf1
  have hfar : 0 ≤ far ∧ far < 18446744073709551616 := by
    have : 0 ≤ far ∧ far ≤ 18446744073709551615 := by simpa [Lit.wf, IntKind.min, IntKind.max, IntKind.signed, IntKind.bits] using wf2
    omega
  unfold maxLen at hcm
  have HAW := Lib.hid (awake8 W (Laid.space hL))
  have HZ := Lib.hid hz
  have hU := uw_bd w0
  unfold uw at hU
  have hm := Int.emod_nonneg (IntKind.u64.wrap w0) (b := 1099511627776) (by omega)
  have hm2 := Int.emod_lt_of_pos (IntKind.u64.wrap w0) (b := 1099511627776) (by omega)
  have hq : -2305843009213693952 ≤ f0.tdiv 4 ∧ f0.tdiv 4 ≤ 2305843009213693952 := by
    unfold lo63 at hf
    have h1 := Int.mul_tdiv_add_tmod f0 4
    have h2 := tmod_lo f0 4 (by omega)
    omega
  have hr := Int.emod_nonneg far (b := 900 * (1 + IntKind.u64.wrap w0 % 1099511627776)) (by omega)
  have hr2 := Int.emod_lt_of_pos far (b := 900 * (1 + IntKind.u64.wrap w0 % 1099511627776)) (by omega)
  clear h0 o0 h1 o1 h2 o2 h3 o3 hL wf0 wf1 wf2 hz hf
  go_enter Tryz.func7, Tryz.ntmps7
  go_wp2_with fail
  refine HAW.out.mono ?_
  rintro e w1 ⟨rfl, hb1⟩
  have HB1 := Lib.hid hb1
  clear hb1
  go_wp2_with fail
  obtain ⟨f, hfE⟩ : ∃ f, f0.tdiv 4 = f := ⟨_, rfl⟩
  obtain ⟨r, hrE⟩ : ∃ r, far % (900 * (1 + IntKind.u64.wrap w0 % 1099511627776)) = r := ⟨_, rfl⟩
  rw [hfE] at hq ⊢
  rw [hrE] at hr hr2 ⊢
  obtain ⟨m, hmE⟩ : ∃ m, IntKind.u64.wrap w0 % 1099511627776 = m := ⟨_, rfl⟩
  rw [hmE] at hm hm2 hr2 ⊢
  clear hfE hrE hmE hU hw
  obtain ⟨wd, hwd⟩ : ∃ wd, 1 + m = wd := ⟨_, rfl⟩
  obtain ⟨l, hl⟩ : ∃ l, f + r = l := ⟨_, rfl⟩
  rw [hwd] at hr2 ⊢
  rw [hl]
  have hw1 : 1 ≤ wd ∧ wd ≤ 1099511627776 := by omega
  have hl1 : f ≤ l ∧ l - f < 900 * wd := by omega
  clear hwd hl hr hr2 hm hm2
  refine (windows14 f (l) wd _ (by unfold lo63; omega) (by unfold lo63; omega) (by omega)).mono ?_
  rintro e w2 ⟨x, k, err, rfl, hs2, ho2, hb2⟩
  obtain ⟨rfl, hk1, hk2, hkd⟩ := tiles_says (by omega) (by unfold lo63; omega) (by omega) (by omega) hs2
  obtain ⟨xa, xc, rfl⟩ := own_form ho2
  have HSF := Lib.hid (fun j => wat_safe f wd (by omega) (by unfold lo63; omega) j)
  have HO := Lib.hid ho2
  have HB2 := Lib.hid (HB1.out.trans (hb2.mono HB1.out.size))
  have HKD := Lib.hid hkd
  have HAT := Lib.hid (fun (wq : World) (hc : wq.heap = w2.heap) (i : Nat) (hi : i < k) => (show ∃ g, xa = some ⟨g, 0, none⟩ ∧ wq.cell? ⟨g, i, none⟩ = some (.int .i64 (wd * (f / wd + i))) from by
    obtain ⟨g, h1, h2⟩ := own_at ho2 hi
    rw [watL_at f wd hi, wat_safe f wd (by omega) (by unfold lo63; omega) i] at h2
    exact ⟨g, h1, (World.cell?_of_block (a := ⟨g, i, none⟩) (by rw [hc])).trans h2⟩))
  clear hs2 ho2 hb2 hkd
  -- the first and the last window
  have hfl0 := Int.mul_ediv_add_emod f wd
  have hfl1 := emod_bd f wd (by omega)
  have hll0 := Int.mul_ediv_add_emod (l) wd
  have hll1 := emod_bd (l) wd (by omega)
  obtain ⟨g0, hg0, hc0⟩ := HAT.out w2 rfl 0 (by omega)
  obtain ⟨g1, hg1, hc1⟩ := HAT.out w2 rfl (k - 1) (by omega)
  subst hg0
  cases hg1
  rw [← HKD.out] at hc1
  have e0 : wd * (f / wd + ((0 : Nat) : Int)) = wd * (f / wd) := by simp
  rw [e0] at hc0
  obtain ⟨q0, hq0⟩ : ∃ q, wd * (f / wd) = q := ⟨_, rfl⟩
  obtain ⟨q1, hq1⟩ : ∃ q, wd * ((l) / wd) = q := ⟨_, rfl⟩
  rw [hq0] at hc0 hfl0
  rw [hq1] at hc1 hll0
  have hq0' : q0 ≤ f := by omega
  have hq1' : q1 ≤ l := by omega
  clear e0 hq0 hq1 hfl0 hfl1 hll0 hll1
  go_wp2_with fail
  clear hc0 hc1 hq0' hq1'
  have HBD := Lib.hid (fun (j : Nat) (hj : j < k) => tile_bd f l wd hw1.1 j (by rw [HKD.out]; omega))
  obtain ⟨ga, hga⟩ : ∃ ga, (⟨g0, 0, none⟩ : Addr) = ga := ⟨_, rfl⟩
  clear hga
  go_loopw [12] (fun i wr => ∃ j q : Nat, 1 ≤ j ∧ j ≤ k ∧ i = .int .i64 j ∧ wr = w2.drewN q) (fun i _ => k - (intOf i).toNat)
  case atStart => exact ⟨1, 0, by omega, by omega, rfl, rfl⟩
  case round =>
    obtain ⟨j, q, hj1, hj, rfl, rfl⟩ := hrel
    by_cases hlt : j < k
    · obtain ⟨g2, hg2, e1⟩ := HAT.out w2 rfl j hlt
      obtain ⟨g3, hg3, e2⟩ := HAT.out w2 rfl (j - 1) (by omega)
      cases hg2
      cases hg3
      have hb1 := HBD.out j hlt
      have hb2 := HBD.out (j - 1) (by omega)
      have hst : wd * (f / wd + (j : Int)) = wd * (f / wd + ((j - 1 : Nat) : Int)) + wd := by
        rw [show (j : Int) = ((j - 1 : Nat) : Int) + 1 by omega, ← Int.add_assoc, Int.mul_add wd _ 1]
        omega
      rw [hst] at e1 hb1
      obtain ⟨p, hp⟩ : ∃ p, wd * (f / wd + ((j - 1 : Nat) : Int)) = p := ⟨_, rfl⟩
      rw [hp] at e1 e2 hb1 hb2
      clear hp hst
      go_wp2_with fail
      go_quiet (fail)
      go_wp2_with fail
      refine ⟨⟨j + 1, _, by omega, by omega, by go_num, rfl⟩, by simp [intOf]; omega⟩
    · have hjk : j = k := by omega
      have HJK := Lib.hid hjk
      clear hjk
      go_wp2_with fail
      go_loopw [80] (fun i wr => ∃ j q : Nat, j ≤ n ∧ i = .int .i64 j ∧ wr = w2.drewN q) (fun i _ => n - (intOf i).toNat)
      case atStart => exact ⟨0, _, Nat.zero_le _, rfl, rfl⟩
      case round =>
        obtain ⟨i, q2, hi, rfl, rfl⟩ := hrel
        by_cases hlt2 : i < n
        · obtain ⟨b, off, rfl, hbw, hcz, hzw⟩ := HZ.out i hlt2
          have hzb : 0 ≤ zs.getD i 0 ∧ zs.getD i 0 ≤ 18446744073709551615 := by simpa [Lit.wf, IntKind.min, IntKind.max, IntKind.signed, IntKind.bits] using hzw
          have dz : w2.cell? ⟨b, off + i, none⟩ = some (.int .u64 (zs.getD i 0)) := (HB2.out.cell (p := ⟨b, off + i, none⟩) hbw).trans hcz
          obtain ⟨z, hzE⟩ : ∃ z, zs.getD i 0 = z := ⟨_, rfl⟩
          rw [hzE] at hzb dz
          have hz1 := Int.emod_nonneg z (b := l - f + 1) (by omega)
          have hz2 := Int.emod_lt_of_pos z (b := l - f + 1) (by omega)
          clear hcz hzw hzE
          go_wp2_with fail
          obtain ⟨t, ht⟩ : ∃ t, f + z % (l - f + 1) = t := ⟨_, rfl⟩
          rw [ht]
          have ht1 : f ≤ t ∧ t ≤ l := by omega
          have HCMP := Lib.hid (fun j => tile_cmp f wd t hw1.1 j)
          have hql : f / wd ≤ t / wd ∧ t / wd ≤ l / wd := ⟨Int.ediv_le_ediv (by omega) ht1.1, Int.ediv_le_ediv (by omega) ht1.2⟩
          rw [HKD.out] at hql
          obtain ⟨qq, hqq⟩ : ∃ qq : Nat, t / wd = f / wd + qq := ⟨(t / wd - f / wd).toNat, by omega⟩
          have hqk : qq < k := by omega
          have HQQ := Lib.hid hqq
          have HWT := Lib.hid (fun w => window_any t wd w (by omega) (by omega))
          rw [win_safe t wd hw1.1 (by unfold lo63; omega), hqq] at HWT
          clear ht hz1 hz2 hqq hql dz hzb
          go_loopw [15, 98] (fun c i wr => ∃ j q : Nat, j ≤ k ∧ i = .int .i64 j ∧ c = .int .i64 (if qq < j then 1 else 0) ∧ wr = w2.drewN q) (fun _ i _ => k - (intOf i).toNat)
          case atStart => exact ⟨0, _, Nat.zero_le _, rfl, rfl, rfl⟩
          case round =>
            obtain ⟨jj, q3, hjj, rfl, rfl, rfl⟩ := hrel
            by_cases hlt3 : jj < k
            · obtain ⟨g2, hg2, e1⟩ := HAT.out w2 rfl jj hlt3
              cases hg2
              have hbd := HBD.out jj hlt3
              obtain ⟨c1, c2, c3⟩ := HCMP.out jj
              rw [HQQ.out] at c1 c2 c3
              rcases Nat.lt_trichotomy jj qq with hc | hc | hc
              · have h1 := c1 (by omega)
                obtain ⟨X, hX⟩ : ∃ X, wd * (f / wd + (jj : Int)) = X := ⟨_, rfl⟩
                rw [hX] at e1 hbd h1
                have hi0 : (if qq < jj then (1 : Int) else 0) = 0 := if_neg (by omega)
                have hi1 : (if qq < jj + 1 then (1 : Int) else 0) = 0 := if_neg (by omega)
                have HI1 := Lib.hid hi1
                rw [hi0]
                clear c1 c2 c3 hX hi0 hi1
                go_wp2_with fail
                exact ⟨⟨jj + 1, _, by omega, by go_num, by rw [HI1.out], rfl⟩, by simp [intOf]; omega⟩
              · have h1 := c2 (by omega)
                have hXE : wd * (f / wd + (jj : Int)) = wd * (f / wd + (qq : Int)) := by rw [hc]
                obtain ⟨X, hX⟩ : ∃ X, wd * (f / wd + (qq : Int)) = X := ⟨_, rfl⟩
                rw [hXE, hX] at e1 hbd h1
                rw [hX] at HWT
                have hi0 : (if qq < jj then (1 : Int) else 0) = 0 := if_neg (by omega)
                have hi1 : (if qq < jj + 1 then (1 : Int) else 0) = 1 := if_pos (by omega)
                have HI1 := Lib.hid hi1
                rw [hi0]
                clear c1 c2 c3 hX hXE hi0 hi1 hc
                go_wp2_with fail
                refine wp_gen (fun wq => Hid (∃ q, wq = w2.drewN q)) (Lib.hid ⟨_, rfl⟩) ?_
                intro wq hwq
                have e1q : wq.cell? ⟨g0, jj, none⟩ = some (.int .i64 X) := by obtain ⟨q, rfl⟩ := hwq.out; exact e1
                have cW := fun (u : Nat) => Calls.quiet_of_same (w := wq) (n := u) (v := .int .i64 X) ((HWT.out (wq.drewN u)).mono fun e w' (h : e = .returned (.int .i64 X) ∧ wq.drewN u = w') => ⟨h.1, h.2.symm⟩)
                clear e1
                go_quiet ((go_at_call 16; exact cW _))
                clear cW
                go_wp2_with fail
                refine ⟨?_, by simp [intOf]; omega⟩
                obtain ⟨q4, hq4⟩ := hwq.out
                exact ⟨jj + 1, q4 + nq, by omega, by go_num, by rw [HI1.out], by rw [hq4, World.drewN_drewN]⟩
              · have h1 := c3 (by omega)
                obtain ⟨X, hX⟩ : ∃ X, wd * (f / wd + (jj : Int)) = X := ⟨_, rfl⟩
                rw [hX] at e1 hbd h1
                have hi0 : (if qq < jj then (1 : Int) else 0) = 1 := if_pos (by omega)
                have hi1 : (if qq < jj + 1 then (1 : Int) else 0) = 1 := if_pos (by omega)
                have HI1 := Lib.hid hi1
                rw [hi0]
                clear c1 c2 c3 hX hi0 hi1
                go_wp2_with fail
                exact ⟨⟨jj + 1, _, by omega, by go_num, by rw [HI1.out], rfl⟩, by simp [intOf]; omega⟩
            · have hi0 : (if qq < jj then (1 : Int) else 0) = 1 := if_pos (by omega)
              rw [hi0]
              clear hi0
              go_wp2_with fail
              exact ⟨⟨i + 1, _, by omega, by go_num, rfl⟩, by simp [intOf]; omega⟩
        · go_wp2_with fail
          go_ret
          exact ⟨rfl, HB2.out.os, HB2.out.tape, HB2.out.output, HB2.out.size, HB2.out.block⟩
end Go.Proofs.YtcpnmpemgkbanaaGreatDoor
