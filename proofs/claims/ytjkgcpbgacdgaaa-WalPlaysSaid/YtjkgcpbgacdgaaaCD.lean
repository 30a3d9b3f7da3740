/- The run's call of Append. Conditions: the sizes. -/
import Derived.Test.YtjkgcpbgacdgaaaCE
import Derived.BigRegion
namespace Go.Proofs.Ytjkgcpbgacdgaaa
open Go.RowKit
set_option maxHeartbeats 8000000 in
set_option maxRecDepth 100000 in
theorem call36A (W w : World) (r : Nat) (room fuse : Int) (K B F : Nat) (Y : List (List UInt8)) (mb : Option (Nat × List (List UInt8))) (h : RunOk W w r room fuse K B F Y mb) (n : Int) (a : Option Addr) (ln cap : Nat) (c : List UInt8) (hc : c.length = ln) (hsrc : ∀ w', Below W.heap.size W w' → SrcN w' 1 (.slice a ln cap) ln (Lib.byteCells c)) (hln : ln ≤ 140737488355328) (hroom : 0 ≤ room ∧ room < 2 ^ 62) (hK : K < 1000) (hB : B + 1048576 ≤ 1000000000) :
    Calls Try.prog 36 #[.pointer (some ⟨r, 0, none⟩), .agg #[.int .i64 1, .int .i64 n, .slice a ln cap]] w fun e w' => e = .returned (.bool true) ∧ CallPost W r room fuse (K + 1) (B + min ln 1048576) mb w' := by
  obtain ⟨S, U, T, d, m, p, l, qv, L, v, X, dv, DX, z, hrun, hlog, hX, hdoc, hDX, hfu, hbd, hz, hmode⟩ := h
  obtain ⟨dn, hdn⟩ : ∃ dn, mb.isSome = dn := ⟨_, rfl⟩
  rw [hdn] at hrun hlog hdoc
  obtain ⟨Bk, hBk⟩ : ∃ B, w.heap.size = B := ⟨_, rfl⟩
  obtain ⟨w1, hw1⟩ : ∃ w1, w.alloc (.cells #[.int .i64 1, .int .i64 n, .slice a ln cap] 70) = w1 := ⟨_, rfl⟩
  have hb1 : Below w.heap.size w w1 := by rw [← hw1]; exact (Below.refl _ _).alloc (Nat.le_refl _) _
  have hm1 : Mid9 W w1 r Bk d m p l 1 n a ln cap S U T qv L room fuse dn F v X z dn := by
    refine ⟨hrun.later hb1, hlog.later hb1, ?_, fun e => ?_, fun e => ?_, fun e => ?_, fun e => ?_, ?_⟩
    · rw [← hw1, ← hBk]; exact heap_alloc_new w _
    · have := (hrun.low Bk (.inl e)).2; omega
    · have := (hrun.low Bk (.inr (.inl e))).2; omega
    · have := (hlog.sep Bk e).2.2.2.2; omega
    · have := (hrun.low r (.inr (.inr rfl))).2; omega
    · have := hrun.below.size; omega
  have hsz := RunOk.sizes (q := True) (L := L) (z := z) (mb := mb) hbd (by omega) (by omega) (by
    rcases hmode with ⟨h1, _, h3⟩ | ⟨MF, MY, q, qd, QX, h1, _, _, _, _, h6⟩
    · exact .inl ⟨h1, trivial, h3⟩
    · exact .inr ⟨MF, MY, h1, h6⟩)
  obtain ⟨i0, hi, hz0, hz1, hz2⟩ := zpartsB
  have HI := Lib.hid hi
  have HI0 := Lib.hid hz0
  have HI1 := Lib.hid hz1
  have HI2 := Lib.hid hz2
  obtain ⟨b1, b2, b3⟩ := hm1.cells
  have b0 := (op_cells hm1.box).1
  have HM1 := Lib.hid hm1
  have HB1 := Lib.hid hb1
  have HS1 := Lib.hid (hsrc w1 hm1.run.below)
  have HSRC := Lib.hid hsrc
  have HX := Lib.hid hX
  have HD1 := Lib.hid (hdoc.later hb1)
  have HDX := Lib.hid hDX
  have HFU := Lib.hid hfu
  have HBD := Lib.hid hbd
  have HZ := Lib.hid hz
  have HMO := Lib.hid hmode
  have HSZ := Lib.hid hsz
  have HLN := Lib.hid hln
  have HR := Lib.hid hroom
  have HCL := Lib.hid (show (Lib.byteCells c).length = ln by rw [Lib.byteCells_length, hc])
  have HXL := Lib.hid (show X.length ≤ 1000 ∧ DX.length ≤ 1000 ∧ F ≤ 1000 by
    have h1 := congrArg List.length hX
    have h2 := congrArg List.length hDX
    simp only [List.length_map] at h1 h2
    have := hbd.fl (by omega) (by omega)
    omega)
  have HDN := Lib.hid hdn
  have HONE := Lib.hid (show ∀ u ∈ Lib.byteCells c, u.oneCell' = true from fun u hu => by
    obtain ⟨x, _, rfl⟩ := List.mem_map.1 hu
    rfl)
  have HW1L := Lib.hid (show ∀ k, S k ∨ T k → k < w1.heap.size from fun k hk => by
    rcases hk with hk | hk
    · exact (hm1.run.low k (.inl hk)).2
    · exact (hm1.log.sep k hk).2.2.2.2)
  clear hi hz0 hz1 hz2 hrun hlog hX hdoc hDX hfu hbd hz hmode hb1 hm1 hsz hsrc hln hroom hdn
  go_enter Try.func36, Try.ntmps36
  go_wp2_with fail
  clear b0 hw1 hBk
  go_region_held3 (fun w' => w'.cell? ⟨r, 1, none⟩ = some (.pointer (some ⟨l, 0, none⟩)) ∧ w'.cell? ⟨r, 2, none⟩ = some (.pointer (some ⟨p, 0, none⟩)) ∧ w'.cell? ⟨Bk, 2, none⟩ = some (.slice a ln cap)) (first | exact HM2.out.cells | exact HM3.out.cells | exact (HM1.out.later ((Below.refl _ _).alloc (Nat.le_refl _) _)).cells | go_keep)
    (first
      | ((refine step_append_srcN (by rfl) _ _ 23 (by rfl) w1.heap.size 5 i0 _ 1 1 Try.underlying23 HI.out HI0.out HI1.out HI2.out (by rfl) (by omega) (.slice (some ⟨w1.heap.size, 0, none⟩) 0 0) 0 [] (by rfl) (by first | exact (row_empty w1 5).drew | exact row_empty w1 5) (.slice a ln cap) ln (Lib.byteCells c) (by rfl) (by first | exact HS1.out.later (((Below.refl _ _).alloc (Nat.le_refl _) _).drew) | exact HS1.out.later ((Below.refl _ _).alloc (Nat.le_refl _) _)) (by have := HLN.out; unfold maxLen; omega) (by have := HLN.out; omega) (by simp) ?_; intro a2 c2 w2 hr2 hg2 hat2; simp only [Nat.zero_add, List.nil_append] at hr2 hat2; have hb2 := (((Below.refl w1.heap.size w1).alloc (Nat.le_refl _) _).drew).grown hg2 (by simp) (fun b hb => by simp [Value.ownBlock] at hb; omega); have HB2 := Lib.hid hb2; have HM2 := Lib.hid (HM1.out.later hb2); have HS2 := Lib.hid (row_srcN hr2 HONE.out); have HNW := Lib.hid (show ∀ b, (Value.slice a2 ln c2).ownBlock = some b → w1.heap.size ≤ b ∧ b < w2.heap.size from fun b hb => by have h1 := hr2.lt b hb; exact h1); clear hr2 hg2 hat2 hb2))
      | (go_at_call 18; refine (append18 (fun k => S k ∨ T k) w2 w2 S T d m L room fuse dn l F v X z dn _ (Lib.byteCells c) (HM2.out.run.wal HM2.out.log) HFU.out.1 HFU.out.2 HR.out.1 (by have := HR.out.2; omega) (by rw [HCL.out]; exact HS2.out) HONE.out (fun _ g hg => ⟨fun e => by have := HW1L.out g (.inl e); have := (HNW.out g hg).1; omega, fun e => by have := HW1L.out l (.inr HM2.out.log.log.here); have := (HNW.out g hg).1; omega, (HNW.out g hg).2⟩) (by rw [HCL.out]; exact HLN.out) (by have := HSZ.out.1; omega) (by have := HSZ.out.2; unfold maxLen; omega) (by have := HZ.out; omega) (by have := HXL.out.1; omega)).mono ?_; rintro e w3 ⟨S', T', L', fuse', down', v', X', size', over', er, rfl, hW3, hsays⟩; have HM3 := Lib.hid (HM2.out.after hW3); have HSAY := Lib.hid hsays; have HD3 := Lib.hid (HM2.out.doc (HD1.out.later HB2.out) hW3.below); have HT3 := Lib.hid hW3.below; clear hW3 hsays)
      | (go_at_call 63; refine (check63 w3 U p F dv DX dn a ln cap HD3.out).mono ?_; rintro e w4 ⟨rfl, hw4⟩; obtain rfl := hw4))
  all_goals
    clear b1 b2 b3
    obtain ⟨b1, b2, b3⟩ := HM3.out.cells
    have HDB := Lib.hid ((Below.refl w3.heap.size w3).drew)
    have HS3 := Lib.hid (show SrcN w3 1 (.slice a ln cap) (Lib.byteCells c).length (Lib.byteCells c) from by
      rw [HCL.out]
      exact HSRC.out w3 HM3.out.run.below)
    go_wp2_with fail
    go_region_held3 (fun w' => w'.cell? ⟨r, 1, none⟩ = some (.pointer (some ⟨l, 0, none⟩)) ∧ w'.cell? ⟨r, 2, none⟩ = some (.pointer (some ⟨p, 0, none⟩)) ∧ w'.cell? ⟨Bk, 2, none⟩ = some (.slice a ln cap)) (first | exact HM3.out.cells | exact HM5.out.cells | go_keep)
      (first
        | (go_at_call 64; refine (appended64 _ U p F dv DX dn (.slice a ln cap) (Lib.byteCells c) (by first | exact HD3.out.later HDB.out | exact HD3.out) (by have := HXL.out.2.1; omega) (by first | exact HS3.out.later HDB.out | exact HS3.out) HONE.out (by rw [HCL.out]; exact HLN.out)).mono ?_; rintro e w5 ⟨p5, v5, cv5, rfl, hd5, hb5⟩; have hb5' : Below w3.heap.size w3 w5 := HDB.out.trans hb5; have HB5 := Lib.hid hb5'; have HM5 := Lib.hid (HM3.out.more hb5' (U' := With U w3 w5) With.old); have HP5 := Lib.hid hd5; have HD5 := Lib.hid (HD3.out.wide hb5' (U' := With U w3 w5) fun k hk => .inl hk); clear hd5 hb5 hb5'))
    all_goals
      clear b1 b2 b3
      rcases HMO.out with ⟨hmb, hqv, hcl⟩ | ⟨MF, MY, q, qd, QX, hmb, hqv, hq, hQX, hqbd, htn⟩
      · have hdn : dn = false := by rw [← HDN.out, hmb]; rfl
        subst hdn
        have hsay := HSAY.out
        rw [HX.out] at hsay
        obtain ⟨hfu', hcase⟩ := append_law hcl HFU.out (fun h9 => by rw [FL_len]; simp [sz]; omega) hsay
        have hbd1 : Bd (K + 1) (B + min ln 1048576) F Y := HBD.out.mono (by omega) (by omega)
        rcases hcase with ⟨hbad, rfl, rfl, rfl, rfl, hX', rfl, rfl⟩ | ⟨hok, hcase⟩
        · have hck : checkE false ln = 1 := by unfold checkE; rw [if_neg (by decide), if_pos (by omega)]
          have HEND := Lib.hid (show RunOk W w5 r room fuse' (K + 1) (B + min ln 1048576) F Y none from ⟨_, _, _, d, m, p, l, _, _, _, _, _, _, z, HM5.out.run, HM5.out.log, hX', HD5.out, HDX.out, hfu', hbd1, HZ.out, .inl ⟨rfl, hqv, hcl⟩⟩)
          rw [hck]
          clear hck hsay hcl hbad hX' hfu' hbd1 hqv
          go_wp2_with fail
          go_ret
          exact ⟨rfl, _, F, Y, none, HEND.out, fun _ _ => rfl⟩
        · have hck : checkE false ln = 0 := by unfold checkE; rw [if_neg (by decide), if_neg (by omega)]
          have hDXs : (DX ++ [(cv5, Lib.byteCells c)]).map Prod.snd = (Y ++ [c]).map Lib.byteCells := by rw [List.map_append, HDX.out, List.map_append]; rfl
          have hbdc : Bd (K + 1) (B + min ln 1048576) F (Y ++ [c]) := (HBD.out.snoc hok.1 hok.2).mono (Nat.le_refl _) (by omega)
          rw [hck]
          have HMIN := Lib.hid (And.intro hbd1 (And.intro hbdc hDXs))
          have HFU' := Lib.hid hfu'
          have HQV := Lib.hid hqv
          clear hck hsay hcl hok hfu' hbd1 hqv hbdc hDXs
          obtain ⟨_, _, g2, g3, g5⟩ := run_cells HM5.out.run.blk
          have g52 := g5 2
          have g53 := g5 3
          have hpf : p < w5.heap.size := blk_lt HD5.out.blk
          have hrf : r < w5.heap.size := blk_lt HM5.out.run.blk
          clear g5
          rcases hcase with ⟨rfl, rfl, rfl, hX', z', rfl, hcl'⟩ | ⟨rfl, rfl, rfl, hX', rfl, hcl'⟩ | ⟨rfl, rfl, rfl, hX', rfl, htn'⟩
          · have HXN := Lib.hid (And.intro hX' hcl')
            clear hX' hcl'
            go_wp2_with fail
            go_ret
            have hzz : z' ≤ 100000000000 := by
              have h1 := (HMIN.out.2.1.fl (by omega) (by omega)).1
              have h2 := HXN.out.2.size
              omega
            have HEND : RunOk W ((w5.setCell ⟨r, 2, none⟩ (.pointer (some ⟨p5, 0, none⟩))).setCell ⟨r, 3, none⟩ (.pointer none)) r room fuse' (K + 1) (B + min ln 1048576) F (Y ++ [c]) none := ⟨_, _, _, d, m, p5, l, .pointer none, _, _, _, _, _, z', (HM5.out.run.set2 p5).set3 (.pointer none), (HM5.out.log.setR 2 _).setR 3 _, HXN.out.1, (HP5.out.setR HM5.out.run.rU 2 _).setR HM5.out.run.rU 3 _, HMIN.out.2.2, HFU'.out, HMIN.out.2.1, hzz, .inl ⟨rfl, rfl, HXN.out.2⟩⟩
            exact ⟨rfl, _, F, Y ++ [c], none, HEND, fun _ _ => rfl⟩
          · have HEND := Lib.hid (show RunOk W w5 r room fuse' (K + 1) (B + min ln 1048576) F Y none from ⟨_, _, _, d, m, p, l, _, _, _, _, _, _, z, HM5.out.run, HM5.out.log, hX', HD5.out, HDX.out, HFU'.out, HMIN.out.1, HZ.out, .inl ⟨rfl, HQV.out, hcl'⟩⟩)
            clear hX' hcl'
            go_wp2_with fail
            go_ret
            exact ⟨rfl, _, F, Y, none, HEND.out, fun _ _ => rfl⟩
          · have HXN := Lib.hid (And.intro hX' htn')
            have HW8 := Lib.hid (fun h : fuse = -1 => append_whole h HSAY.out rfl)
            clear hX' htn'
            obtain ⟨da, dc, rfl⟩ := HD5.out.list.form
            obtain ⟨k0, k1, k2⟩ := doc_cells HD5.out.blk
            obtain ⟨j0, _, _, _, _⟩ := run_cells HM5.out.run.blk
            go_wp2_with fail
            refine (down28 w5 _ d m L' room fuse' true HM5.out.run.disk).mono ?_
            rintro e w6 ⟨rfl, hw⟩
            obtain rfl := hw.symm
            go_wp2_with fail
            go_region
            all_goals
              obtain ⟨U6, hrun6, hlog6, hdoc6, hall6⟩ := boxed HM5.out.run HM5.out.log HD5.out true
              obtain ⟨w7, hw7⟩ : ∃ w7, (w5.drew.alloc (docO F (.slice da DX.length dc) true)).setCell ⟨r, 2, none⟩ (.pointer (some ⟨w5.heap.size, 0, none⟩)) = w7 := ⟨_, rfl⟩
              rw [hw7] at hrun6 hlog6 hdoc6 hall6
              rw [World.alloc_drew, World.setCell_drew, World.setCell_alloc_past _ _ _ _ hrf] at hw7
              unfold docO at hw7
              rw [hw7]
              clear hw7
              obtain ⟨h60, h61, h62, h63, h65⟩ := run_cells hrun6.blk
              have h653 := h65 3
              have hq6 := hall6 _ _ _ _ _ HP5.out
              have HEND := Lib.hid (show RunOk W (w7.setCell ⟨r, 3, none⟩ (.pointer (some ⟨p5, 0, none⟩))) r room fuse' (K + 1) (B + min ln 1048576) F Y (some (F, Y ++ [c])) from ⟨_, _, _, d, m, _, l, _, _, _, _, _, _, z, hrun6.set3 (.pointer (some ⟨p5, 0, none⟩)), hlog6.setR 3 _, HXN.out.1, hdoc6.setR hrun6.rU 3 _, HDX.out, HFU'.out, HMIN.out.1, HZ.out, .inr ⟨F, Y ++ [c], p5, _, _, rfl, rfl, hq6.setR hrun6.rU 3 _, HMIN.out.2.2, HMIN.out.2.1, HXN.out.2⟩⟩)
              clear hrun6 hlog6 hdoc6 hall6 h65 hq6
              go_wp2_with fail
              go_ret
              exact ⟨rfl, _, F, Y, _, HEND.out, fun h _ => (HW8.out h).elim⟩
      · have hdn : dn = true := by rw [← HDN.out, hmb]; rfl
        subst hdn
        rcases HSAY.out with ⟨_, rfl, rfl, rfl, rfl, hX', rfl, rfl⟩ | ⟨h1, _⟩ | ⟨h1, _⟩
        rotate_left
        · cases h1
        · cases h1
        · have hbd1 : Bd (K + 1) (B + min ln 1048576) F Y := HBD.out.mono (by omega) (by omega)
          have hqbd1 : Bd (K + 1) (B + min ln 1048576) MF MY := hqbd.mono (by omega) (by omega)
          have hq5 := (HM2.out.doc ((hq.later HB1.out).later HB2.out) HT3.out).wide HB5.out (U' := With U w3 w5) fun k hk => .inl hk
          have HEND := Lib.hid (show RunOk W w5 r room fuse' (K + 1) (B + min ln 1048576) F Y (some (MF, MY)) from ⟨_, _, _, d, m, p, l, _, _, _, _, _, _, z, HM5.out.run, HM5.out.log, by rw [hX', HX.out], HD5.out, HDX.out, HFU.out, hbd1, HZ.out, .inr ⟨MF, MY, q, qd, QX, rfl, hqv, hq5, hQX, hqbd1, htn⟩⟩)
          have HNO := Lib.hid (show mb = none → False from fun h => by rw [hmb] at h; cases h)
          have hck : checkE true ln = 8 := rfl
          rw [hck]
          clear hck hX' hbd1 hqbd1 hqv hq hQX hqbd htn hq5
          go_wp2_with fail
          go_ret
          exact ⟨rfl, _, F, Y, _, HEND.out, fun _ h => by first | exact (HNO.out h).elim | cases h⟩
end Go.Proofs.Ytjkgcpbgacdgaaa
