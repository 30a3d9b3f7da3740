/- The document's disk: a file is taken away. Condition: the files' number. -/
import Derived.Test.YtjkgcpbgacdgaaaAK
namespace Go.Proofs.Ytjkgcpbgacdgaaa
open Go.RowKit Go.Sort
set_option maxRecDepth 100000 in
theorem refRemove (w : World) (T : Nat → Prop) (r : Nat) (L : List Ent) (R : List RFile) (room fuse : Int) (down : Bool) (s : ByteArray) (h : RefAt w T r R room fuse down) (hl : Like L R) (hcap : Caps R) (ha : Apart (L.map pE)) (hf : -1 ≤ fuse) (hf2 : fuse < 2 ^ 63) (hn : R.length ≤ 1000000000000) :
    Calls Try.prog 53 #[.pointer (some ⟨r, 0, none⟩), .string s] w fun e w' => e = .returned (.int .i64 (chE L fuse down s)) ∧ RefIs w w' T r (remL L fuse down s) room (chF L fuse down s) (chD L fuse down s) := by
  obtain ⟨h1, h2⟩ := there_like hl ha down s
  have HCAP := Lib.hid hcap
  clear hcap
  have HH := Lib.hid h
  have HL := Lib.hid hl
  have HA := Lib.hid ha
  have HN := Lib.hid hn
  have HF := Lib.hid hf
  have HF2 := Lib.hid hf2
  clear h hl ha hn hf hf2
  obtain ⟨tt, htt⟩ : ∃ tt, thereI R down s = tt := ⟨_, rfl⟩
  obtain ⟨t1, t2⟩ := tt
  rw [htt] at h1 h2
  simp only at h1 h2
  have HTT := Lib.hid htt
  have H1 := Lib.hid h1
  clear htt h1
  by_cases hz : t2 = 0
  · subst hz
    obtain ⟨rfl, k, x, e, hk1, hx, hxn, hlk, hpe, hge⟩ := h2 rfl
    subst hk1
    clear h2
    have hce : chE L fuse false s = opE fuse := by simp [chE, ← H1.out]
    have hcf : chF L fuse false s = opF fuse := by simp [chF, ← H1.out]
    have hcd : chD L fuse false s = opD fuse false := by simp [chD, ← H1.out]
    rw [hce, hcf, hcd]
    have HCE := Lib.hid hce
    have HX := Lib.hid hx
    have HXN := Lib.hid hxn
    have HLK := Lib.hid hlk
    have HPE := Lib.hid hpe
    clear hce hcf hcd hx hxn hlk hpe hge
    go_enter Try.func53, Try.ntmps53
    go_wp2_with fail
    refine (refThere w T r R room fuse false s HH.out HN.out).mono ?_
    rw [HTT.out]
    rintro e1 w1 ⟨rfl, rfl⟩
    go_wp2_with fail
    refine (refOperation w T r R room fuse false HH.out HF.out HF2.out).mono ?_
    rintro e1 w1 ⟨rfl, ho1, hr1⟩
    have HO1 := Lib.hid ho1
    have HR1 := Lib.hid hr1
    clear ho1 hr1
    by_cases h0 : opE fuse = 0
    · rw [h0]
      have HC := Lib.hid (HCE.out.trans h0)
      have HZ := Lib.hid h0
      clear h0
      go_wp2_with fail
      refine (refTake w1 T r R room (opF fuse) (opD fuse false) k x HR1.out HX.out HN.out).mono ?_
      rintro e2 w2 ⟨rfl, ht2, hr2⟩
      have HT2 := Lib.hid ht2
      have HR2 := Lib.hid hr2
      clear ht2 hr2
      go_wp2_with fail
      go_ret
      refine ⟨by rw [HZ.out]; rfl, R.eraseIdx k, ?_, ?_, HCAP.out.erase k, HR2.out.more HO1.out.withs⟩
      · simp only [remL, HC.out, if_true]
        exact like_drop HL.out HA.out HX.out HXN.out
      · exact (HO1.out.turns HH.out.here).trans HT2.out (fun _ hx => .inl (hx ▸ HH.out.here))
    · have hb : (opE fuse == 0) = false := by simp [h0]
      have hsl : remL L fuse false s = L := by
        have := HCE.out
        simp [remL, this, h0]
      have HSL := Lib.hid hsl
      clear h0 hsl
      go_wp2_with fail
      go_ret
      refine ⟨rfl, ?_⟩
      rw [HSL.out]
      exact HO1.out.ref HR1.out HL.out HCAP.out
  · have hb : (t2 == 0) = false := by simp [hz]
    have hg : ¬ (getE L down s).2 = 0 := by rw [← H1.out]; exact hz
    have hce : chE L fuse down s = t2 := by simp only [chE, if_neg hg]; exact H1.out.symm
    have hcf : chF L fuse down s = fuse := by simp [chF, hg]
    have hcd : chD L fuse down s = down := by simp [chD, hg]
    have hsl : remL L fuse down s = L := by simp [remL, hce, hz]
    rw [hsl, hce, hcf, hcd]
    clear hce hcf hcd hsl hg h2 hz
    go_enter Try.func53, Try.ntmps53
    go_wp2_with fail
    refine (refThere w T r R room fuse down s HH.out HN.out).mono ?_
    rw [HTT.out]
    rintro e1 w1 ⟨rfl, rfl⟩
    go_wp2_with fail
    go_ret
    exact ⟨rfl, RefIs.same HH.out HL.out HCAP.out⟩
end Go.Proofs.Ytjkgcpbgacdgaaa
