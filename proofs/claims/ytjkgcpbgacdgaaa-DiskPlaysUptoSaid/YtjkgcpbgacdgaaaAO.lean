/- The document's disk: a file is cut. Condition: the files' number. -/
import Derived.Test.YtjkgcpbgacdgaaaAN
namespace Go.Proofs.Ytjkgcpbgacdgaaa
open Go.RowKit Go.Sort
theorem Src.short {w : World} {a : Option Addr} {n c j : Nat} {xs : List Value} (h : Src w (.slice a n c) xs) (hj : j ≤ xs.length) : Src w (.slice a j c) (xs.take j) := by
  have hl : (xs.take j).length = j := by rw [List.length_take]; omega
  rcases h with ⟨h1, h2⟩ | ⟨ad, c', h1, h2, h3⟩
  · injection h1 with e1 e2 e3
    subst e1 e3 h2
    simp at hj
    subst hj
    exact .inl ⟨rfl, rfl⟩
  · injection h1 with e1 e2 e3
    subst e1 e3
    refine .inr ⟨ad, c, by rw [hl], fun i u hi => h2 i u ?_, fun u hu => h3 u (List.mem_of_mem_take hu)⟩
    rw [List.getElem?_take] at hi
    split at hi
    · exact hi
    · cases hi
theorem set_set {α : Type} (R : List α) (k : Nat) (x y : α) : (R.set k x).set k y = R.set k y := List.set_set x
set_option maxRecDepth 100000 in
theorem refCut (w : World) (T : Nat → Prop) (r : Nat) (L : List Ent) (R : List RFile) (room fuse : Int) (down : Bool) (s : ByteArray) (n : Int) (h : RefAt w T r R room fuse down) (hl : Like L R) (hcap : Caps R) (ha : Apart (L.map pE)) (hf : -1 ≤ fuse) (hf2 : fuse < 2 ^ 63) (hn : R.length ≤ 1000000000000) (hlens : lens L ≤ 140737488355328) :
    Calls Try.prog 54 #[.pointer (some ⟨r, 0, none⟩), .string s, .int .i64 n] w fun e w' => e = .returned (.int .i64 (cutE L fuse down s n)) ∧ RefIs w w' T r (cutL L fuse down s n) room (cutF L fuse down s n) (cutD L fuse down s n) := by
  obtain ⟨h1, h2⟩ := there_like hl ha down s
  have HCAP := Lib.hid hcap
  clear hcap
  have HH := Lib.hid h
  have HL := Lib.hid hl
  have HA := Lib.hid ha
  have HN := Lib.hid hn
  have HF := Lib.hid hf
  have HF2 := Lib.hid hf2
  have HLS := Lib.hid hlens
  clear h hl ha hn hf hf2 hlens
  obtain ⟨tt, htt⟩ : ∃ tt, thereI R down s = tt := ⟨_, rfl⟩
  obtain ⟨t1, t2⟩ := tt
  rw [htt] at h1 h2
  simp only at h1 h2
  have HTT := Lib.hid htt
  have H1 := Lib.hid h1
  clear htt h1
  by_cases hz : t2 = 0
  · subst hz
    obtain ⟨rfl, k, x, e, hk1, hx, hxn, hlk, hpe, hge⟩ := h2 rfl
    subst hk1
    clear h2
    have HX := Lib.hid hx
    have HXN := Lib.hid hxn
    have HLK := Lib.hid hlk
    have HPE := Lib.hid hpe
    have HGE := Lib.hid hge
    have hkl : k < R.length := (List.getElem?_eq_some_iff.1 hx).1
    have hbl : e.bs.length = x.bs.length := congrArg (fun p : PF => p.bs.length) hpe
    have hio : isOut (getE L false s).1 n = decide (n < 0 ∨ (x.bs.length : Int) < n) := by rw [hge]; simp only [isOut, hbl]
    have HIO := Lib.hid hio
    obtain ⟨fv, fz, hb, _, hrow, _⟩ := HH.out.blk
    obtain ⟨g, cap, rfl⟩ : ∃ g cap, fv = .slice (some ⟨g, 0, none⟩) R.length cap := by
      rcases hrow.2 with ⟨rfl, h0⟩ | ⟨g, cap, cur, rfl, _⟩
      · omega
      · exact ⟨_, cap, rfl⟩
    have c0 : w.cell? ⟨r, 0, none⟩ = some (.slice (some ⟨g, 0, none⟩) R.length cap) := by simp [World.cell?, hb]
    obtain ⟨hxv1, hxv2⟩ := HH.out.bytes x (List.mem_of_getElem? HX.out)
    obtain ⟨va, vc, hv⟩ : ∃ a c, x.v = .slice a x.bs.length c := by
      rcases hxv1 with ⟨h1, h2⟩ | ⟨ad, c, h1, _⟩
      · exact ⟨none, 0, by rw [h1, h2]; rfl⟩
      · exact ⟨_, c, h1⟩
    have HV := Lib.hid hv
    have e1 := (hrow.cellAt (k * 3 + 1) (by omega)).trans (refCells_at R k x HX.out).2.1
    rw [hv] at e1
    have hxl : x.bs.length ≤ 140737488355328 := by
      have h3 := lensR_take R k x HX.out
      have h4 := lensR_le R (k + 1)
      have h5 := like_lens HL.out
      have := HLS.out
      omega
    have hk0 : (0 : Int) ≤ (k : Int) := by omega
    have hk1 : (k : Int) < (R.length : Int) := by omega
    have HC0 := Lib.hid c0
    have HKL := Lib.hid hkl
    obtain ⟨nn, hnn⟩ : ∃ nn, R.length = nn := ⟨_, rfl⟩
    obtain ⟨N, hNN⟩ : ∃ N, x.bs.length = N := ⟨_, rfl⟩
    have HNN := Lib.hid hNN
    have HRN := Lib.hid hnn
    rw [hnn] at c0 hk1
    rw [hNN] at e1 hxl
    clear hx hxn hlk hpe hge hkl hbl hb hrow hxv1 hxv2 hv hnn hNN hio
    by_cases hout : n < 0 ∨ (N : Int) < n
    · have ho : isOut (getE L false s).1 n = true := by rw [HIO.out, HNN.out]; exact decide_eq_true hout
      have hce : cutE L fuse false s n = 3 := by simp [cutE, ho]
      have hcf : cutF L fuse false s n = fuse := by simp [cutF, ho]
      have hcd : cutD L fuse false s n = false := by simp [cutD, ho]
      have hcl : cutL L fuse false s n = L := by simp [cutL, hce]
      rw [hce, hcf, hcd, hcl]
      clear hce hcf hcd hcl ho
      have hcase : (n < 0 ∧ decide (n < 0) = true) ∨ (¬ n < 0 ∧ (N : Int) < n ∧ decide (n < 0) = false ∧ decide ((N : Int) < n) = true) := by
        by_cases h : n < 0
        · exact .inl ⟨h, decide_eq_true h⟩
        · exact .inr ⟨h, by omega, decide_eq_false h, decide_eq_true (by omega)⟩
      go_enter Try.func54, Try.ntmps54
      go_wp2_with fail
      refine (refThere w T r R room fuse false s HH.out HN.out).mono ?_
      rw [HTT.out]
      rintro e1 w1 ⟨rfl, rfl⟩
      clear hout
      rcases hcase with ⟨g1, g2⟩ | ⟨g1, g2, g3, g4⟩
      all_goals
        go_wp2_with fail
        go_ret
        exact ⟨rfl, RefIs.same HH.out HL.out HCAP.out⟩
    · have ho : isOut (getE L false s).1 n = false := by rw [HIO.out, HNN.out]; exact decide_eq_false hout
      obtain ⟨m, rfl⟩ : ∃ m : Nat, n = (m : Int) := ⟨n.toNat, by omega⟩
      have hm : m ≤ N := by omega
      have hce : cutE L fuse false s m = opE fuse := by simp [cutE, ho, chE, ← H1.out]
      have hcf : cutF L fuse false s m = opF fuse := by simp [cutF, ho, chF, ← H1.out]
      have hcd : cutD L fuse false s m = opD fuse false := by simp [cutD, ho, chD, ← H1.out]
      rw [hce, hcf, hcd]
      have HCE := Lib.hid hce
      have g1 : ¬ (m : Int) < 0 := by omega
      have g2 : ¬ (N : Int) < (m : Int) := by omega
      have g3 : decide (N < m) = false := decide_eq_false (by omega)
      have HM := Lib.hid hm
      clear hce hcf hcd ho hout hm
      go_enter Try.func54, Try.ntmps54
      go_wp2_with fail
      refine (refThere w T r R room fuse false s HH.out HN.out).mono ?_
      rw [HTT.out]
      rintro e1 w1 ⟨rfl, rfl⟩
      go_wp2_with fail
      refine (refOperation w T r R room fuse false HH.out HF.out HF2.out).mono ?_
      rintro e1 w1 ⟨rfl, ho1, hr1⟩
      have HO1 := Lib.hid ho1
      have HR1 := Lib.hid hr1
      clear ho1 hr1 c0 e1 g1 g2 g3
      by_cases h0 : opE fuse = 0
      · rw [h0]
        have HC := Lib.hid (HCE.out.trans h0)
        have HZ := Lib.hid h0
        clear h0
        obtain ⟨fv1, fz1, hb, _, hrow, _⟩ := HR1.out.blk
        obtain ⟨g', cap', rfl⟩ : ∃ g cap, fv1 = .slice (some ⟨g, 0, none⟩) R.length cap := by
          rcases hrow.2 with ⟨rfl, h0⟩ | ⟨g, cap, cur, rfl, _⟩
          · have := HKL.out; omega
          · exact ⟨_, cap, rfl⟩
        have c0 : w1.cell? ⟨r, 0, none⟩ = some (.slice (some ⟨g', 0, none⟩) R.length cap') := by simp [World.cell?, hb]
        obtain ⟨hTg, hgr, hgl, _, hgs⟩ := HR1.out.row_block c0
        have e1 := (hrow.cellAt (k * 3 + 1) (by have := HKL.out; omega)).trans (refCells_at R k x HX.out).2.1
        rw [HV.out, HNN.out] at e1
        have z1 : w1.frozen? ⟨g', k * 3 + 1, none⟩ = false := by
          rcases hrow.2 with ⟨h1, _⟩ | ⟨g', cap', cur, hv', _, hg, _⟩
          · cases h1
          · cases hv'
            simp [World.frozen?, hg]
        have hxb := HR1.out.bytes x (List.mem_of_getElem? HX.out)
        have hshort : BytesOf w1 T r ⟨x.name, .slice va m vc, x.bs.take m, x.syn⟩ := by
          refine ⟨Src.short (n := N) (by have h8 := hxb.1; rw [HV.out, HNN.out] at h8; exact h8) (by rw [HNN.out]; exact HM.out), fun b hb' => hxb.2 b (by rw [HV.out]; cases va <;> exact hb')⟩
        have hne : (Value.slice va m vc).ownBlock ≠ some g' := fun h => hgs x (List.mem_of_getElem? HX.out) (by rw [HV.out]; cases va <;> exact h)
        have hput := HR1.out.putV HX.out c0 (.slice va m vc) (x.bs.take m) hshort hne
        have HP := Lib.hid hput
        have HTG := Lib.hid hTg
        have hvc : m ≤ vc := by
          have h8 := HCAP.out.at_ HX.out
          rw [HV.out, HNN.out] at h8
          exact Nat.le_trans HM.out h8
        have hsl := run_slice_to va N vc m (m : Int) rfl hvc
        have HC1 := Lib.hid c0
        rw [HRN.out] at c0
        clear hb hrow hgr hgl hgs hxb hshort hne hput hTg hvc
        go_wp2_with fail
        go_region
        obtain ⟨w2, hw2⟩ : ∃ w2, (w1.setCell ⟨g', k * 3 + 1, none⟩ (.slice va m vc)).drew = w2 := ⟨_, rfl⟩
        rw [hw2]
        have hr2 : RefAt w2 T r (R.set k ⟨x.name, .slice va m vc, x.bs.take m, x.syn⟩) room (opF fuse) (opD fuse false) := by rw [← hw2]; exact HP.out.drew
        have ht2 : Turns T w w2 := by rw [← hw2]; exact ((HO1.out.turns HH.out.here).trans ((onlyD_set _ _ _ _).turns HTG.out) (fun _ hx => .inl hx)).drew
        have c2 : w2.cell? ⟨r, 0, none⟩ = some (.slice (some ⟨g', 0, none⟩) (R.set k ⟨x.name, .slice va m vc, x.bs.take m, x.syn⟩).length cap') := by
          rw [← hw2, List.length_set]
          have h3 := HR1.out.row_block HC1.out
          have h4 := World.cell?_of_block (a := ⟨r, 0, none⟩) ((onlyD_set w1 g' (k * 3 + 1) (.slice va m vc)).2.2.2.2 r (fun e => h3.2.1 e.symm))
          exact h4.trans HC1.out
        have hx2 : (R.set k ⟨x.name, .slice va m vc, x.bs.take m, x.syn⟩)[k]? = some ⟨x.name, .slice va m vc, x.bs.take m, x.syn⟩ := by
          rw [List.getElem?_set_self HKL.out]
        obtain ⟨fv2, fz2, hb2, _, hrow2, _⟩ := hr2.blk
        have hfv2 : fv2 = .slice (some ⟨g', 0, none⟩) (R.set k ⟨x.name, .slice va m vc, x.bs.take m, x.syn⟩).length cap' := by
          simp only [World.cell?, hb2] at c2
          simpa using c2
        subst hfv2
        have e2 := (hrow2.cellAt (k * 3 + 2) (by rw [List.length_set]; have := HKL.out; omega)).trans (refCells_at _ k _ hx2).2.2
        have z2 : w2.frozen? ⟨g', k * 3 + 2, none⟩ = false := by
          rcases hrow2.2 with ⟨h1, _⟩ | ⟨g', cap', cur, hv', _, hg, _⟩
          · cases h1
          · cases hv'
            simp [World.frozen?, hg]
        have hmk := hr2.mark hx2 c2 (min x.syn m)
        have HMK := Lib.hid hmk
        have HT2 := Lib.hid ht2
        rw [List.length_set, HRN.out] at c2
        simp only at e2
        clear hw2 hr2 ht2 hx2 hb2 hrow2 hmk c0 e1 z1 hsl
        go_wp2_with fail
        go_region
        all_goals
          go_wp2_with fail
          go_ret
          refine ⟨by rw [HZ.out]; rfl, R.set k ⟨x.name, .slice va m vc, x.bs.take m, min x.syn m⟩, ?_, ?_, HCAP.out.set k (show m ≤ vc from ?_), ?_⟩
          · simp only [cutL, HC.out, if_true, HLK.out, Int.toNat_natCast]
            have hbb : e.bs = x.bs := congrArg (fun p : PF => p.bs) HPE.out
            have hss : e.syn = x.syn := congrArg (fun p : PF => p.syn) HPE.out
            rw [hbb, hss]
            exact like_set HL.out HA.out HX.out HXN.out _ _ _ _
          · exact (HT2.out.trans ((onlyD_set _ _ _ _).turns HMK.out.2) (fun _ hx => .inl hx)).drew
          · have h8 := HCAP.out.at_ HX.out
            rw [HV.out, HNN.out] at h8
            exact Nat.le_trans HM.out h8
          · have h9 := HMK.out.1.drew
            rw [set_set] at h9
            exact h9.more fun x hx => Or.inl hx
      · have hb : (opE fuse == 0) = false := by simp [h0]
        have hsl : cutL L fuse false s m = L := by
          have := HCE.out
          simp [cutL, this, h0]
        have HSL := Lib.hid hsl
        clear h0 hsl
        go_wp2_with fail
        go_ret
        refine ⟨rfl, ?_⟩
        rw [HSL.out]
        exact HO1.out.ref HR1.out HL.out HCAP.out
  · have hb : (t2 != 0) = true := by simp [hz]
    have hg : ¬ (getE L down s).2 = 0 := by rw [← H1.out]; exact hz
    have hn1 : (getE L down s).1 = none := by
      unfold getE at hg ⊢
      cases down with
      | true => rfl
      | false => cases hk : look L s with
        | none => rfl
        | some e => rw [hk] at hg; simp at hg
    have ho : isOut (getE L down s).1 n = false := by rw [hn1]; rfl
    have hce : cutE L fuse down s n = t2 := by simp only [cutE, ho, chE, if_neg hg]; exact H1.out.symm
    have hcf : cutF L fuse down s n = fuse := by simp [cutF, ho, chF, hg]
    have hcd : cutD L fuse down s n = down := by simp [cutD, ho, chD, hg]
    have hsl : cutL L fuse down s n = L := by simp [cutL, hce, hz]
    rw [hsl, hce, hcf, hcd]
    clear hce hcf hcd hsl hg h2 hz hn1 ho
    go_enter Try.func54, Try.ntmps54
    go_wp2_with fail
    refine (refThere w T r R room fuse down s HH.out HN.out).mono ?_
    rw [HTT.out]
    rintro e1 w1 ⟨rfl, rfl⟩
    go_wp2_with fail
    go_ret
    exact ⟨rfl, RefIs.same HH.out HL.out HCAP.out⟩
end Go.Proofs.Ytjkgcpbgacdgaaa
