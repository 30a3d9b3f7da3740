/- The run's log opened anew. Conditions: the sizes. -/
import Derived.Test.YtjkgcpbgacdgaaaCE
import Derived.BigRegion
namespace Go.Proofs.Ytjkgcpbgacdgaaa
open Go.RowKit
def InOpR (W : World) (r : Nat) (room fuse : Int) (K B F : Nat) (Y : List (List UInt8)) (mb : Option (Nat × List (List UInt8))) (F' : Nat) (Y' : List (List UInt8)) (i : Value) (wr : World) : Prop :=
  ∃ (k : Nat) (fu : Int), (k = 0 ∨ k = 1) ∧ i = .int .i64 k ∧ (k = 1 → fu = -1) ∧ (fuse = -1 → fu = -1) ∧ Ready W wr r room fu K B F Y mb F' Y'
set_option maxHeartbeats 8000000 in
set_option maxRecDepth 100000 in
theorem open35 (W w : World) (r : Nat) (room fuse : Int) (K B F : Nat) (Y : List (List UInt8)) (mb : Option (Nat × List (List UInt8))) (F' : Nat) (Y' : List (List UInt8)) (h : Ready W w r room fuse K B F Y mb F' Y') (a : Option Addr) (n cap : Nat) (cs : List UInt8) (hsrc : ∀ w', Below W.heap.size W w' → ∀ S, (∀ x, S x → W.heap.size ≤ x) → SrcAt w' S (.slice a n cap) (Lib.byteCells cs)) (hK : K ≤ 1000) (hB : B ≤ 1000000000) :
    Calls Try.prog 35 #[.pointer (some ⟨r, 0, none⟩), .slice a n cap] w fun e w' => e = .returned (.bool true) ∧ OpenedPost W r room fuse K B F' Y' w' := by
  have HH := Lib.hid h
  have HSRC := Lib.hid hsrc
  clear h hsrc
  go_enter Try.func35, Try.ntmps35
  go_wp2_with fail
  go_loopw [7] (fun i wr => InOpR W r room fuse K B F Y mb F' Y' i wr) (fun i _ => 6 - (intOf i).toNat)
  case atStart => exact ⟨0, fuse, .inl rfl, rfl, (fun e => by cases e), fun h => h, HH.out⟩
  case round =>
    obtain ⟨k, fu, hk, rfl, hk1, hfk, S, U, d, m, p, lv, qv, L, dv, DX, dover, t, z, hrun, ⟨lo, rfl⟩, hdoc, hDX, hfu, hbd, hbd', hop, hgood, hmode, hmb⟩ := hrel
    obtain ⟨b0, b1, b2, b3, b4⟩ := run_cells hrun.blk
    have hfl := hbd'.fl hK hB
    have hst := hop.stuck.len
    have hk6 : decide ((k : Int) < 6) = true := decide_eq_true (by omega)
    have HOP := Lib.hid (open17 S wr wr S d m L room fu F' (Y'.map Lib.byteCells) t z hrun.disk hfu.1 hfu.2 (fun k hk => ⟨.inl hk, (hrun.low k (.inl hk)).2⟩) (Turns.refl _ _) hgood.bytesW hop.found (bytes_mono hbd') hop.stuck (by omega) (by
      rw [List.length_append]
      have h1 : (contL (F' : Int) ((Y'.map Lib.byteCells).map nilv)).length = (FL F' Y').length := rfl
      omega))
    have HRUN := Lib.hid hrun
    have HDOC := Lib.hid hdoc
    have HDX := Lib.hid hDX
    have HFU := Lib.hid hfu
    have HBD := Lib.hid hbd
    have HBD' := Lib.hid hbd'
    have HOPN := Lib.hid hop
    have HMODE := Lib.hid hmode
    have HMB := Lib.hid hmb
    have HK1 := Lib.hid hk1
    have HFK := Lib.hid hfk
    have HKK := Lib.hid hk
    have HFL := Lib.hid hfl
    clear hrun hdoc hDX hfu hbd hbd' hop hgood hmode hmb hst hk1 hk hfl hfk
    go_wp2_with fail
    refine HOP.out.mono ?_
    rintro e w2 ⟨L', fuse', down', er, hsay, ⟨rfl, T', l, v, X, rfl, hW, hXX⟩ | ⟨her, rfl, hd, _, ht⟩⟩
    · have hcl : FuseOk fuse' ∧ down' = false ∧ Clean L' F' Y' z := by
        rcases HMODE.out with rfl | ⟨rfl, hc⟩
        · obtain ⟨_, h2, h3, h4⟩ := open_torn HOPN.out hsay
          exact ⟨by rw [h2]; exact HFU.out, h3, h4⟩
        · obtain ⟨h1, h2, h3⟩ := open_clean hc HFU.out hsay
          rcases h2 with ⟨_, h2⟩ | ⟨h2, _⟩
          · exact ⟨h1, h2, h3⟩
          · cases h2
      have HNEG := Lib.hid (show fuse = -1 → fuse' = -1 from fun h => by
        have h1 := HFK.out h
        rw [h1] at hsay
        exact (open_torn HOPN.out hsay).2.1)
      obtain ⟨hfu', rfl, hcl⟩ := hcl
      obtain ⟨hrun2, hlog2⟩ := HRUN.out.opened hW
      have hdoc2 := HDOC.out.turn HRUN.out hW.below
      obtain ⟨w3, hw3⟩ : ∃ w3, w2.setCell ⟨r, 1, none⟩ (.pointer (some ⟨l, 0, none⟩)) = w3 := ⟨_, rfl⟩
      have hrun3 := hrun2.set1 (.pointer (some ⟨l, 0, none⟩))
      have hlog3 := hlog2.setR 1 (.pointer (some ⟨l, 0, none⟩))
      have hdoc3 := hdoc2.setR hrun2.rU 1 (.pointer (some ⟨l, 0, none⟩))
      rw [hw3] at hrun3 hlog3 hdoc3
      obtain ⟨_, c1, _, _, c5⟩ := run_cells hrun2.blk
      have c51 := c5 1
      obtain ⟨_, e1, e2, e3, e5⟩ := run_cells hrun3.blk
      have e52 := e5 2
      have e53 := e5 3
      obtain ⟨f0, f1, f2⟩ := doc_cells hdoc3.blk
      have hrl : r < w3.heap.size := (hrun3.low r (.inr (.inr rfl))).2
      have hpl : p < w3.heap.size := blk_lt hdoc3.blk
      have HRUN3 := Lib.hid hrun3
      have HLOG3 := Lib.hid hlog3
      have HDOC3 := Lib.hid hdoc3
      have HXX := Lib.hid hXX
      have HCL := Lib.hid hcl
      have HFU' := Lib.hid hfu'
      have HMB3 := Lib.hid (show (mb = none ∧ qv = .pointer none ∧ F' = F ∧ Y' = Y) ∨ ∃ MF MY q qd QX, mb = some (MF, MY) ∧ qv = .pointer (some ⟨q, 0, none⟩) ∧ DocAt w3 U q MF qd QX false ∧ QX.map Prod.snd = MY.map Lib.byteCells ∧ Bd K B MF MY ∧ ((F' = F ∧ Y' = Y) ∨ (F' = MF ∧ Y' = MY)) by
        rcases HMB.out with h1 | ⟨MF, MY, q, qd, QX, h1, h2, h3, h4, h5, h6⟩
        · exact .inl h1
        · exact .inr ⟨MF, MY, q, qd, QX, h1, h2, by
            have h7 := (h3.turn HRUN.out hW.below).setR hrun2.rU 1 (.pointer (some ⟨l, 0, none⟩))
            rw [hw3] at h7
            exact h7, h4, h5, h6⟩)
      obtain ⟨da, dc, rfl⟩ := hdoc3.list.form
      clear hsay hW hXX hcl hfu' hrun2 hlog2 hdoc2 hrun3 hlog3 hdoc3 c5 e5 b0 b1 b2 b3 b4
      go_wp2_with fail
      clear hw3
      go_region
      all_goals
        obtain ⟨U6, hrun6, hlog6, hdoc6, hall6⟩ := boxed HRUN3.out HLOG3.out HDOC3.out false
        obtain ⟨w6, hw6⟩ : ∃ w6, (w3.drew.alloc (docO F (.slice da DX.length dc) false)).setCell ⟨r, 2, none⟩ (.pointer (some ⟨w3.heap.size, 0, none⟩)) = w6 := ⟨_, rfl⟩
        rw [hw6] at hrun6 hlog6 hdoc6 hall6
        rw [World.alloc_drew, World.setCell_drew, World.setCell_alloc_past _ _ _ _ hrl] at hw6
        unfold docO at hw6
        rw [hw6]
        clear hw6
        obtain ⟨h60, h61, h62, h63, h65⟩ := run_cells hrun6.blk
        have h653 := h65 3
        have h652 := h65 2
        have HRUN6 := Lib.hid hrun6
        have HLOG6 := Lib.hid hlog6
        have HDOC6 := Lib.hid hdoc6
        have hlf := HFL.out
        have hpf1 := (HBD.out.fl hK hB)
        have HS6 := Lib.hid (same37 w6 T' U6 l d w3.heap.size F' z F v (.slice da DX.length dc) X DX Y' Y false false hlog6.log hdoc6 HXX.out HDX.out (by omega) (by omega) (by omega) (by omega) (fun b hb => by have := (HBD'.out.2.2 b hb).2; omega))
        rcases HMB3.out with ⟨hm1, rfl, hF, hY⟩ | ⟨MF, MY, q, qd, QX, hm1, rfl, hq, hQX, hqbd, hch⟩
        · have hdec : decide ((F' : Int) = F ∧ Y' = Y) = true := decide_eq_true ⟨by rw [hF], hY⟩
          have hs6 := HS6.out
          rw [hdec] at hs6
          obtain ⟨w7, hw7⟩ : ∃ w7, w6.setCell ⟨r, 3, none⟩ (.pointer none) = w7 := ⟨_, rfl⟩
          have hrun7 := hrun6.set3 (.pointer none)
          have hlog7 := hlog6.setR 3 (.pointer none)
          have hdoc7 := hdoc6.setR hrun6.rU 3 (.pointer none)
          rw [hw7] at hrun7 hlog7 hdoc7
          have hs7 := same37 w7 T' U6 l d w3.heap.size F' z F v (.slice da DX.length dc) X DX Y' Y false false hlog7.log hdoc7 HXX.out HDX.out (by omega) (by omega) (by omega) (by omega) (fun b hb => by have := (HBD'.out.2.2 b hb).2; omega)
          rw [hdec] at hs7
          obtain ⟨h70, h71, h72, h73, h75⟩ := run_cells hrun7.blk
          have HS7 := Lib.hid hs7
          have HRUN7 := Lib.hid hrun7
          have HLOG7 := Lib.hid hlog7
          have HDOC7 := Lib.hid hdoc7
          have HFY := Lib.hid (And.intro hF hY)
          clear hs6 hs7 hdec hrun6 hlog6 hdoc6 hall6 hrun7 hlog7 hdoc7 hF hY hm1 hlf hpf1 h65 h75 e1 e2 e3 e52 e53 c1 c51 f0 f1 f2
          go_wp2_with fail
          refine HS7.out.mono ?_
          rintro e w8 ⟨rfl, hb8⟩
          have HEND := Lib.hid (show RunOk W w8 r room fuse' K B F' Y' none from ⟨_, _, _, d, m, _, l, _, _, _, _, _, _, z, HRUN7.out.later hb8, HLOG7.out.later hb8, HXX.out, by rw [HFY.out.1]; exact HDOC7.out.later hb8, by rw [HFY.out.2]; exact HDX.out, HFU'.out, HBD'.out, by have := HFL.out.1; have := HCL.out.size; omega, .inl ⟨rfl, rfl, HCL.out⟩⟩)
          clear hb8
          go_wp2_with fail
          go_ret
          exact ⟨rfl, _, HEND.out, HNEG.out⟩
        · have HQ6 := Lib.hid (hall6 q MF qd QX false hq)
          have hs6 := HS6.out
          have HQB := Lib.hid (And.intro hQX hqbd)
          have hqf := hqbd.fl hK hB
          by_cases hsame : (F' : Int) = F ∧ Y' = Y
          · rw [decide_eq_true hsame] at hs6
            have HSA := Lib.hid hsame
            have HS6' := Lib.hid hs6
            clear hs6 hsame hrun6 hlog6 hdoc6 hall6 hm1 h65 e1 e2 e3 e52 e53 c1 c51 f0 f1 f2 hq hQX hqbd hch
            go_wp2_with fail
            refine HS6'.out.mono ?_
            rintro e w7 ⟨rfl, hb7⟩
            have hrun7 := HRUN6.out.later hb7
            have hlog7 := HLOG6.out.later hb7
            have hdoc7 := HDOC6.out.later hb7
            obtain ⟨h70, h71, h72, h73, h75⟩ := run_cells hrun7.blk
            have h753 := h75 3
            obtain ⟨w8, hw8⟩ : ∃ w8, w7.setCell ⟨r, 3, none⟩ (.pointer none) = w8 := ⟨_, rfl⟩
            have hrun8 := hrun7.set3 (.pointer none)
            have hlog8 := hlog7.setR 3 (.pointer none)
            have hdoc8 := hdoc7.setR hrun7.rU 3 (.pointer none)
            rw [hw8] at hrun8 hlog8 hdoc8
            have hs8 := same37 w8 T' U6 l d w3.heap.size F' z F v (.slice da DX.length dc) X DX Y' Y false false hlog8.log hdoc8 HXX.out HDX.out (by omega) (by omega) (by omega) (by omega) (fun b hb => by have := (HBD'.out.2.2 b hb).2; omega)
            rw [decide_eq_true HSA.out] at hs8
            obtain ⟨h80, h81, h82, h83, h85⟩ := run_cells hrun8.blk
            have HS8 := Lib.hid hs8
            have HRUN8 := Lib.hid hrun8
            have HLOG8 := Lib.hid hlog8
            have HDOC8 := Lib.hid hdoc8
            clear hs8 hrun7 hlog7 hdoc7 hrun8 hlog8 hdoc8 h75 h85 hb7
            go_wp2_with fail
            refine HS8.out.mono ?_
            rintro e w9 ⟨rfl, hb9⟩
            have HEND := Lib.hid (show RunOk W w9 r room fuse' K B F' Y' none from ⟨_, _, _, d, m, _, l, _, _, _, _, _, _, z, HRUN8.out.later hb9, HLOG8.out.later hb9, HXX.out, by rw [HSA.out.1]; exact HDOC8.out.later hb9, by rw [HSA.out.2]; exact HDX.out, HFU'.out, HBD'.out, by have := HFL.out.1; have := HCL.out.size; omega, .inl ⟨rfl, rfl, HCL.out⟩⟩)
            clear hb9
            go_wp2_with fail
            go_ret
            exact ⟨rfl, _, HEND.out, HNEG.out⟩
          · have hch2 : F' = MF ∧ Y' = MY := by
              rcases hch with ⟨h1, h2⟩ | h1
              · exact absurd ⟨by rw [h1], h2⟩ hsame
              · exact h1
            rw [decide_eq_false hsame] at hs6
            have HSA := Lib.hid hch2
            have HS6' := Lib.hid hs6
            clear hs6 hsame hrun6 hlog6 hdoc6 hall6 hm1 h65 e1 e2 e3 e52 e53 c1 c51 f0 f1 f2 hq hQX hqbd hch hch2
            go_wp2_with fail
            refine HS6'.out.mono ?_
            rintro e w7 ⟨rfl, hb7⟩
            have hrun7 := HRUN6.out.later hb7
            have hlog7 := HLOG6.out.later hb7
            have hdoc7 := HQ6.out.later hb7
            obtain ⟨h70, h71, h72, h73, h75⟩ := run_cells hrun7.blk
            have h752 := h75 2
            obtain ⟨w8, hw8⟩ : ∃ w8, w7.setCell ⟨r, 2, none⟩ (.pointer (some ⟨q, 0, none⟩)) = w8 := ⟨_, rfl⟩
            have hrun8 := hrun7.set2 q
            have hlog8 := hlog7.setR 2 (.pointer (some ⟨q, 0, none⟩))
            have hdoc8 := hdoc7.setR hrun7.rU 2 (.pointer (some ⟨q, 0, none⟩))
            rw [hw8] at hrun8 hlog8 hdoc8
            obtain ⟨h80, h81, h82, h83, h85⟩ := run_cells hrun8.blk
            have h853 := h85 3
            obtain ⟨w9, hw9⟩ : ∃ w9, w8.setCell ⟨r, 3, none⟩ (.pointer none) = w9 := ⟨_, rfl⟩
            have hrun9 := hrun8.set3 (.pointer none)
            have hlog9 := hlog8.setR 3 (.pointer none)
            have hdoc9 := hdoc8.setR hrun8.rU 3 (.pointer none)
            rw [hw9] at hrun9 hlog9 hdoc9
            obtain ⟨qa, qc, rfl⟩ := hdoc9.list.form
            have hs9 := same37 w9 T' U6 l d q F' z MF v (.slice qa QX.length qc) X QX Y' MY false false hlog9.log hdoc9 HXX.out HQB.out.1 (by omega) (by omega) (by omega) (by omega) (fun b hb => by have := (HBD'.out.2.2 b hb).2; omega)
            rw [decide_eq_true (show (F' : Int) = MF ∧ Y' = MY from ⟨by rw [HSA.out.1], HSA.out.2⟩)] at hs9
            obtain ⟨h90, h91, h92, h93, h95⟩ := run_cells hrun9.blk
            have HS9 := Lib.hid hs9
            have HRUN9 := Lib.hid hrun9
            have HLOG9 := Lib.hid hlog9
            have HDOC9 := Lib.hid hdoc9
            clear hs9 hrun7 hlog7 hdoc7 hrun8 hlog8 hdoc8 hrun9 hlog9 hdoc9 h75 h85 h95 hb7
            go_wp2_with fail
            refine HS9.out.mono ?_
            rintro e w10 ⟨rfl, hb10⟩
            have HEND := Lib.hid (show RunOk W w10 r room fuse' K B F' Y' none from ⟨_, _, _, d, m, _, l, _, _, _, _, _, _, z, HRUN9.out.later hb10, HLOG9.out.later hb10, HXX.out, by rw [HSA.out.1]; exact HDOC9.out.later hb10, by rw [HSA.out.2]; exact HQB.out.1, HFU'.out, HBD'.out, by have := HFL.out.1; have := HCL.out.size; omega, .inl ⟨rfl, rfl, HCL.out⟩⟩)
            clear hb10
            go_wp2_with fail
            go_ret
            exact ⟨rfl, _, HEND.out, HNEG.out⟩
    · have hcl : FuseOk fuse' ∧ er = 8 ∧ down' = true ∧ t = [] ∧ Clean L' F' Y' z ∧ k = 0 := by
        have hk0 : fu ≠ -1 := fun e => by
          rw [e] at hsay
          exact her (open_torn HOPN.out hsay).1
        rcases HMODE.out with h1 | ⟨rfl, hc⟩
        · exact absurd h1 hk0
        · obtain ⟨h1, h2, h3⟩ := open_clean hc HFU.out hsay
          rcases h2 with ⟨h2, _⟩ | ⟨h2, h4⟩
          · exact absurd h2 her
          · refine ⟨h1, h2, h4, rfl, h3, ?_⟩
            rcases HKK.out with h5 | h5
            · exact h5
            · exact absurd (HK1.out h5) hk0
      obtain ⟨hfu', rfl, rfl, rfl, hcl, rfl⟩ := hcl
      have hrun2 := HRUN.out.turn ht hd
      have hdoc2 := HDOC.out.turn HRUN.out ht
      obtain ⟨c0, c1, c2, c3, _⟩ := run_cells hrun2.blk
      have hzz : z ≤ 100000000000 := by have := HFL.out.1; have := hcl.size; omega
      have hrst := restart w2 S d m L' room fuse' true (.slice a n cap) cs (fun k hk => (hrun2.low k (.inl hk)).2) hd (hcl.good hzz) (by have := (lens_clean hcl).2; omega) (HSRC.out w2 hrun2.below S fun k hk => (hrun2.low k (.inl hk)).1)
      have HRST := Lib.hid hrst
      have HRUN2 := Lib.hid hrun2
      have HDOC2 := Lib.hid hdoc2
      have HCL := Lib.hid hcl
      have HZZ := Lib.hid hzz
      have HT2 := Lib.hid ht
      clear hrst hrun2 hdoc2 hcl hzz ht hd hsay her hfu' b0 b1 b2 b3 b4
      go_wp2_with fail
      refine HRST.out.mono ?_
      rintro e w3 ⟨rfl, ht3, hd3⟩
      have hrun3 := HRUN2.out.turn ht3 hd3
      have hclr := rst_clean HCL.out cs
      have HREADY := Lib.hid (show Ready W w3 r room (-1) K B F Y mb F' Y' from ⟨S, U, d, m, p, _, qv, _, dv, DX, dover, [], z, hrun3, ⟨_, rfl⟩, HDOC2.out.turn HRUN2.out ht3, HDX.out, ⟨by omega, by omega⟩, HBD.out, HBD'.out, hclr.openable, hclr.good HZZ.out, .inl rfl, by
        rcases HMB.out with h1 | ⟨MF, MY, q, qd, QX, h1, h2, h3, h4, h5, h6⟩
        · exact .inl h1
        · exact .inr ⟨MF, MY, q, qd, QX, h1, h2, (h3.turn HRUN.out HT2.out).turn HRUN2.out ht3, h4, h5, h6⟩⟩)
      clear ht3 hd3 hrun3 hclr
      go_wp2_with fail
      go_roundw
      case rel => exact ⟨1, -1, .inr rfl, rfl, fun _ => rfl, fun _ => rfl, HREADY.out⟩
      case measure => simp [intOf]
end Go.Proofs.Ytjkgcpbgacdgaaa
