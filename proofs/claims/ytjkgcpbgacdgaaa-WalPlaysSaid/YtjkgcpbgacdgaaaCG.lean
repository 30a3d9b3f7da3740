/- The run's call of Trim. Conditions: the sizes. -/
import Derived.Test.YtjkgcpbgacdgaaaCE
import Derived.BigRegion
namespace Go.Proofs.Ytjkgcpbgacdgaaa
open Go.RowKit
set_option maxHeartbeats 8000000 in
set_option maxRecDepth 100000 in
theorem call36T (W w : World) (r : Nat) (room fuse : Int) (K B F : Nat) (Y : List (List UInt8)) (mb : Option (Nat × List (List UInt8))) (h : RunOk W w r room fuse K B F Y mb) (n : Int) (a : Option Addr) (ln cap : Nat) (hroom : 0 ≤ room ∧ room < 2 ^ 62) (hK : K ≤ 1000) (hB : B ≤ 1000000000) :
    Calls Try.prog 36 #[.pointer (some ⟨r, 0, none⟩), .agg #[.int .i64 2, .int .i64 n, .slice a ln cap]] w fun e w' => e = .returned (.bool true) ∧ CallPost W r room 0 K B mb w' := by
  obtain ⟨S, U, T, d, m, p, l, qv, L, v, X, dv, DX, z, hrun, hlog, hX, hdoc, hDX, hfu, hbd, hz, hmode⟩ := h
  obtain ⟨dn, hdn⟩ : ∃ dn, mb.isSome = dn := ⟨_, rfl⟩
  rw [hdn] at hrun hlog hdoc
  obtain ⟨Bk, hBk⟩ : ∃ B, w.heap.size = B := ⟨_, rfl⟩
  obtain ⟨w1, hw1⟩ : ∃ w1, w.alloc (.cells #[.int .i64 2, .int .i64 n, .slice a ln cap] 70) = w1 := ⟨_, rfl⟩
  have hb1 : Below w.heap.size w w1 := by rw [← hw1]; exact (Below.refl _ _).alloc (Nat.le_refl _) _
  have hm1 : Mid9 W w1 r Bk d m p l 2 n a ln cap S U T qv L room fuse dn F v X z dn := by
    refine ⟨hrun.later hb1, hlog.later hb1, ?_, fun e => ?_, fun e => ?_, fun e => ?_, fun e => ?_, ?_⟩
    · rw [← hw1, ← hBk]; exact heap_alloc_new w _
    · have := (hrun.low Bk (.inl e)).2; omega
    · have := (hrun.low Bk (.inr (.inl e))).2; omega
    · have := (hlog.sep Bk e).2.2.2.2; omega
    · have := (hrun.low r (.inr (.inr rfl))).2; omega
    · have := hrun.below.size; omega
  have hsz := RunOk.sizes (q := True) (L := L) (z := z) (mb := mb) hbd (by omega) (by omega) (by
    rcases hmode with ⟨h1, _, h3⟩ | ⟨MF, MY, q, qd, QX, h1, _, _, _, _, h6⟩
    · exact .inl ⟨h1, trivial, h3⟩
    · exact .inr ⟨MF, MY, h1, h6⟩)
  obtain ⟨i0, hi, hz0, hz1, hz2⟩ := zpartsB
  have HI := Lib.hid hi
  have HI0 := Lib.hid hz0
  have HI1 := Lib.hid hz1
  have HI2 := Lib.hid hz2
  obtain ⟨b1, b2, b3⟩ := hm1.cells
  obtain ⟨b0, b4, _⟩ := op_cells hm1.box
  obtain ⟨k0, k1, k2⟩ := doc_cells (hdoc.later hb1).blk
  have HCN := Lib.hid (show ∀ n : Int, (contL n X).length ≤ 1000000000000 from fun n => by
    have h1 := (hbd.fl (by omega) (by omega)).1
    have h2 : (FL F Y).length = 12 + cost (Y.map Lib.byteCells) := contL_cost F (Y.map Lib.byteCells)
    rw [contL_snd, contL_cost, hX]
    omega)
  have HM1 := Lib.hid hm1
  have HB1 := Lib.hid hb1
  have HX := Lib.hid hX
  have HD1 := Lib.hid (hdoc.later hb1)
  have HDX := Lib.hid hDX
  have HFU := Lib.hid hfu
  have HBD := Lib.hid hbd
  have HZ := Lib.hid hz
  have HMO := Lib.hid hmode
  have HSZ := Lib.hid hsz
  have HR := Lib.hid hroom
  have HXL := Lib.hid (show X.length ≤ 1000 ∧ DX.length ≤ 1000 ∧ F ≤ 1000 by
    have h1 := congrArg List.length hX
    have h2 := congrArg List.length hDX
    simp only [List.length_map] at h1 h2
    have := hbd.fl (by omega) (by omega)
    omega)
  have HDN := Lib.hid hdn
  have HW1L := Lib.hid (show ∀ k, S k ∨ T k → k < w1.heap.size from fun k hk => by
    rcases hk with hk | hk
    · exact (hm1.run.low k (.inl hk)).2
    · exact (hm1.log.sep k hk).2.2.2.2)
  clear hi hz0 hz1 hz2 hrun hlog hX hdoc hDX hfu hbd hz hmode hb1 hm1 hsz hroom hdn
  go_enter Try.func36, Try.ntmps36
  go_wp2_with fail
  clear b0 hw1 hBk
  go_quiet (fail)
  go_wp2_with fail
  obtain ⟨n9, hn9⟩ : ∃ n9, wrap64 ((F : Int) + n.tmod 1000) = n9 := ⟨_, rfl⟩
  rw [hn9]
  obtain ⟨w2, hw2⟩ : ∃ w2, w1.drewN nq = w2 := ⟨_, rfl⟩
  have hb2 : Below w1.heap.size w1 w2 := by rw [← hw2]; exact below_dN w1 nq
  rw [hw2]
  have HB2 := Lib.hid hb2
  have HM2 := Lib.hid (HM1.out.later hb2)
  have HD2 := Lib.hid (HD1.out.later hb2)
  clear b1 b2 b3 b4 k0 k1 k2 hn9 hw2 hb2
  obtain ⟨b1, b2, _⟩ := HM2.out.cells
  go_region_held3 (fun w' => w'.cell? ⟨r, 1, none⟩ = some (.pointer (some ⟨l, 0, none⟩)) ∧ w'.cell? ⟨r, 2, none⟩ = some (.pointer (some ⟨p, 0, none⟩))) (first | exact ⟨HM2.out.cells.1, HM2.out.cells.2.1⟩ | exact ⟨HM3.out.cells.1, HM3.out.cells.2.1⟩ | exact ⟨HM4.out.cells.1, HM4.out.cells.2.1⟩ | go_keep)
    (first
      | (go_at_call 21; refine (trim21 (fun k => S k ∨ T k) w2 _ S T d m L room fuse dn l F v X z dn n9 (by first | exact (HM2.out.run.wal HM2.out.log).later ((Below.refl w2.heap.size w2).drew) | exact HM2.out.run.wal HM2.out.log) HFU.out.1 HFU.out.2 HR.out.1 (by have := HR.out.2; omega) (HCN.out n9) (by have := HSZ.out.1; omega) (by have := HSZ.out.2; unfold maxLen; omega) (by have := HXL.out.1; omega) (by have := HXL.out.2.2; omega)).mono ?_; rintro e w3 ⟨S', T', L', fuse', down', first', v', X', size', over', er, rfl, hW3, hsays⟩; have HM3 := Lib.hid (HM2.out.after hW3); have HSAY := Lib.hid hsays; have HD3 := Lib.hid (HM2.out.doc HD2.out hW3.below); have HT3 := Lib.hid hW3.below; clear hW3 hsays)
      | (go_at_call 65; refine (fits65 w3 U p F dv DX dn n9 HD3.out (by have := HXL.out.2.2; omega) (by have := HXL.out.2.1; omega)).mono ?_; rintro e w4 ⟨rfl, q4, hq4⟩; have hb4 : Below w3.heap.size w3 w4 := hq4 ▸ below_dN w3 q4; have HB4 := Lib.hid hb4; have HM4 := Lib.hid (HM3.out.later hb4); have HD4 := Lib.hid (HD3.out.later hb4); clear hq4 hb4))
  all_goals
    clear b1 b2
    obtain ⟨_, _, g2, g3, g5⟩ := run_cells HM4.out.run.blk
    have g52 := g5 2
    have g53 := g5 3
    obtain ⟨da, dc, rfl⟩ := HD4.out.list.form
    obtain ⟨k0, k1, k2⟩ := doc_cells HD4.out.blk
    clear g5
    rcases HMO.out with ⟨hmb, hqv, hcl⟩ | ⟨MF, MY, q, qd, QX, hmb, hqv, hq, hQX, hqbd, htn⟩
    · have hdn : dn = false := by rw [← HDN.out, hmb]; rfl
      subst hdn
      have hsay := HSAY.out
      rw [HX.out] at hsay
      have hDl : DX.length = Y.length := by simpa using congrArg List.length HDX.out
      obtain ⟨hfu', hcase⟩ := trim_law hcl HFU.out (fun k hk => by have := ((HBD.out.drop k hk).fl (by omega) (by omega)).1; omega) hsay
      rcases hcase with ⟨hbad, rfl, rfl, rfl, rfl, rfl, hX', rfl, rfl⟩ | ⟨k, hkY, hn9, hcase⟩
      · have hck : fitsE false F DX.length n9 = 3 := by unfold fitsE; rw [if_neg (by decide), if_pos (by rw [hDl]; exact hbad)]
        have HEND := Lib.hid (show RunOk W w4 r room fuse' K B F Y none from ⟨_, _, _, d, m, p, l, _, _, _, _, _, _, z, HM4.out.run, HM4.out.log, hX', HD4.out, HDX.out, hfu', HBD.out, HZ.out, .inl ⟨rfl, hqv, hcl⟩⟩)
        rw [hck]
        clear hck hsay hcl hbad hX' hfu' hqv hDl k0 k1 k2 g2 g3 g52 g53
        go_wp2_with fail
        go_ret
        exact ⟨rfl, _, F, Y, none, HEND.out, fun h => absurd h (by decide)⟩
      · subst hn9
        have hck : fitsE false F DX.length (F + k) = 0 := by unfold fitsE; rw [if_neg (by decide), if_neg (by rw [hDl]; omega)]
        rw [hck]
        have hDk : (DX.drop k).map Prod.snd = (Y.drop k).map Lib.byteCells := by rw [List.map_drop, HDX.out, List.map_drop]
        have HMIN := Lib.hid (And.intro (HBD.out.drop k hkY) hDk)
        have HFU' := Lib.hid hfu'
        have HQV := Lib.hid hqv
        have HTR := Lib.hid (trimmed66 w4 U p F _ DX false k HD4.out (by omega) (by have := HXL.out.2.1; omega))
        clear hck hsay hcl hkY hfu' hqv hDk hDl
        go_wp2_with fail
        refine HTR.out.mono ?_
        rintro e w5 ⟨p5, v5, rfl, hd5, hb5⟩
        have HM5 := Lib.hid (HM4.out.more hb5 (U' := With U w4 w5) With.old)
        have HP5 := Lib.hid (show DocAt w5 (With U w4 w5) p5 ((F + k : Nat) : Int) v5 (DX.drop k) false by rw [Int.natCast_add]; exact hd5)
        have HD5 := Lib.hid (HD4.out.wide hb5 (U' := With U w4 w5) fun k hk => .inl hk)
        have hpf : p < w5.heap.size := blk_lt HD5.out.blk
        have hrf : r < w5.heap.size := blk_lt HM5.out.run.blk
        clear hd5 hb5 k0 k1 k2 g2 g3 g52 g53
        obtain ⟨j0, _, g2, g3, g5⟩ := run_cells HM5.out.run.blk
        have g52 := g5 2
        have g53 := g5 3
        obtain ⟨k0, k1, k2⟩ := doc_cells HD5.out.blk
        clear g5
        rcases hcase with ⟨rfl, rfl, rfl, rfl, hX', z', rfl, hcl'⟩ | ⟨rfl, rfl, rfl, rfl, hX', rfl, hcl'⟩ | ⟨rfl, rfl, rfl, rfl, hX', rfl, htn'⟩
        · have HXN := Lib.hid (And.intro hX' hcl')
          clear hX' hcl'
          go_wp2_with fail
          go_ret
          have hzz : z' ≤ 100000000000 := by
            have h1 := (HMIN.out.1.fl (by omega) (by omega)).1
            have h2 := HXN.out.2.size
            omega
          have HEND : RunOk W ((w5.setCell ⟨r, 2, none⟩ (.pointer (some ⟨p5, 0, none⟩))).setCell ⟨r, 3, none⟩ (.pointer none)) r room fuse' K B (F + k) (Y.drop k) none := ⟨_, _, _, d, m, p5, l, .pointer none, _, _, _, _, _, z', (HM5.out.run.set2 p5).set3 (.pointer none), (HM5.out.log.setR 2 _).setR 3 _, HXN.out.1, (HP5.out.setR HM5.out.run.rU 2 _).setR HM5.out.run.rU 3 _, HMIN.out.2, HFU'.out, HMIN.out.1, hzz, .inl ⟨rfl, rfl, HXN.out.2⟩⟩
          exact ⟨rfl, _, F + k, Y.drop k, none, HEND, fun h => absurd h (by decide)⟩
        · have HEND := Lib.hid (show RunOk W w5 r room fuse' K B F Y none from ⟨_, _, _, d, m, p, l, _, _, _, _, _, _, z, HM5.out.run, HM5.out.log, hX', HD5.out, HDX.out, HFU'.out, HBD.out, HZ.out, .inl ⟨rfl, HQV.out, hcl'⟩⟩)
          clear hX' hcl'
          go_wp2_with fail
          go_ret
          exact ⟨rfl, _, F, Y, none, HEND.out, fun h => absurd h (by decide)⟩
        · have HXN := Lib.hid (And.intro hX' htn')
          clear hX' htn'
          go_wp2_with fail
          refine (down28 w5 _ d m L' room fuse' true HM5.out.run.disk).mono ?_
          rintro e w6 ⟨rfl, hw⟩
          obtain rfl := hw.symm
          go_wp2_with fail
          go_region
          all_goals
            obtain ⟨U6, hrun6, hlog6, hdoc6, hall6⟩ := boxed HM5.out.run HM5.out.log HD5.out true
            obtain ⟨w7, hw7⟩ : ∃ w7, (w5.drew.alloc (docO F (.slice da DX.length dc) true)).setCell ⟨r, 2, none⟩ (.pointer (some ⟨w5.heap.size, 0, none⟩)) = w7 := ⟨_, rfl⟩
            rw [hw7] at hrun6 hlog6 hdoc6 hall6
            rw [World.alloc_drew, World.setCell_drew, World.setCell_alloc_past _ _ _ _ hrf] at hw7
            unfold docO at hw7
            rw [hw7]
            clear hw7
            obtain ⟨h60, h61, h62, h63, h65⟩ := run_cells hrun6.blk
            have h653 := h65 3
            have hq6 := hall6 _ _ _ _ _ HP5.out
            have HEND := Lib.hid (show RunOk W (w7.setCell ⟨r, 3, none⟩ (.pointer (some ⟨p5, 0, none⟩))) r room fuse' K B F Y (some (F + k, Y.drop k)) from ⟨_, _, _, d, m, _, l, _, _, _, _, _, _, z, hrun6.set3 (.pointer (some ⟨p5, 0, none⟩)), hlog6.setR 3 _, HXN.out.1, hdoc6.setR hrun6.rU 3 _, HDX.out, HFU'.out, HBD.out, HZ.out, .inr ⟨F + k, Y.drop k, p5, _, _, rfl, rfl, hq6.setR hrun6.rU 3 _, HMIN.out.2, HMIN.out.1, HXN.out.2⟩⟩)
            clear hrun6 hlog6 hdoc6 hall6 h65 hq6
            go_wp2_with fail
            go_ret
            exact ⟨rfl, _, F, Y, _, HEND.out, fun h => absurd h (by decide)⟩
    · have hdn : dn = true := by rw [← HDN.out, hmb]; rfl
      subst hdn
      rcases HSAY.out with ⟨_, rfl, rfl, rfl, rfl, rfl, hX', rfl, rfl⟩ | ⟨h1, _⟩ | ⟨h1, _⟩ | ⟨h1, _⟩
      rotate_left
      · cases h1
      · cases h1
      · cases h1
      · have hq4 := (HM2.out.doc ((hq.later HB1.out).later HB2.out) HT3.out).later HB4.out
        have HEND := Lib.hid (show RunOk W w4 r room fuse' K B F Y (some (MF, MY)) from ⟨_, _, _, d, m, p, l, _, _, _, _, _, _, z, HM4.out.run, HM4.out.log, by rw [hX', HX.out], HD4.out, HDX.out, HFU.out, HBD.out, HZ.out, .inr ⟨MF, MY, q, qd, QX, rfl, hqv, hq4, hQX, hqbd, htn⟩⟩)
        have hck : fitsE true F DX.length n9 = 8 := rfl
        rw [hck]
        clear hck hX' hqv hq hQX hqbd htn hq4 k0 k1 k2 g2 g3 g52 g53
        go_wp2_with fail
        go_ret
        exact ⟨rfl, _, F, Y, _, HEND.out, fun h => absurd h (by decide)⟩
end Go.Proofs.Ytjkgcpbgacdgaaa
