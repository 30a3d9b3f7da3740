/- The document's disk: a file is made safe, or taken away. Condition: the files' number. -/
import Derived.Test.YtjkgcpbgacdgaaaAJ
import Derived.BigRegion
namespace Go.Proofs.Ytjkgcpbgacdgaaa
open Go.RowKit Go.Sort
theorem Turns.mono {S S' : Nat → Prop} {w w' : World} (h : Turns S w w') (hs : ∀ x, S x → S' x) : Turns S' w w' := ⟨h.os, h.tape, h.output, h.size, fun k hk hn => h.block k hk fun e => hn (hs k e)⟩
theorem RefAt.drew {w : World} {T : Nat → Prop} {r : Nat} {R : List RFile} {room fuse : Int} {down : Bool} (h : RefAt w T r R room fuse down) : RefAt w.drew T r R room fuse down := h.same2 (Nat.le_refl _) fun _ _ _ => rfl
theorem Turns.drew {S : Nat → Prop} {w w' : World} (h : Turns S w w') : Turns S w w'.drew := ⟨h.os, h.tape, h.output, h.size, h.block⟩
theorem OnlyD.sized {d : Nat} {w w' : World} (h : OnlyD d w w') : w'.heap.size = w.heap.size := h.2.2.2.1
theorem OnlyD.withs {T : Nat → Prop} {d : Nat} {w w' w'' : World} (h : OnlyD d w w') : ∀ x, With T w' w'' x → With T w w'' x := fun x hx => by
  rcases hx with hx | hx
  · exact .inl hx
  · exact .inr (by rw [h.sized] at hx; exact hx)
set_option maxRecDepth 100000 in
theorem refSync (w : World) (T : Nat → Prop) (r : Nat) (L : List Ent) (R : List RFile) (room fuse : Int) (down : Bool) (s : ByteArray) (h : RefAt w T r R room fuse down) (hl : Like L R) (hcap : Caps R) (ha : Apart (L.map pE)) (hf : -1 ≤ fuse) (hf2 : fuse < 2 ^ 63) (hn : R.length ≤ 1000000000000) :
    Calls Try.prog 51 #[.pointer (some ⟨r, 0, none⟩), .string s] w fun e w' => e = .returned (.int .i64 (chE L fuse down s)) ∧ RefIs w w' T r (syncL L fuse down s) room (chF L fuse down s) (chD L fuse down s) := by
  obtain ⟨h1, h2⟩ := there_like hl ha down s
  have HCAP := Lib.hid hcap
  clear hcap
  have HH := Lib.hid h
  have HL := Lib.hid hl
  have HA := Lib.hid ha
  have HN := Lib.hid hn
  have HF := Lib.hid hf
  have HF2 := Lib.hid hf2
  clear h hl ha hn hf hf2
  obtain ⟨tt, htt⟩ : ∃ tt, thereI R down s = tt := ⟨_, rfl⟩
  obtain ⟨t1, t2⟩ := tt
  rw [htt] at h1 h2
  simp only at h1 h2
  have HTT := Lib.hid htt
  have H1 := Lib.hid h1
  clear htt h1
  by_cases hz : t2 = 0
  · subst hz
    obtain ⟨rfl, k, x, e, hk1, hx, hxn, hlk, hpe, hge⟩ := h2 rfl
    subst hk1
    clear h2
    have hce : chE L fuse false s = opE fuse := by simp [chE, ← H1.out]
    have hcf : chF L fuse false s = opF fuse := by simp [chF, ← H1.out]
    have hcd : chD L fuse false s = opD fuse false := by simp [chD, ← H1.out]
    rw [hce, hcf, hcd]
    have HCE := Lib.hid hce
    have HX := Lib.hid hx
    have HXN := Lib.hid hxn
    have HLK := Lib.hid hlk
    have HPE := Lib.hid hpe
    clear hce hcf hcd hx hxn hlk hpe hge
    go_enter Try.func51, Try.ntmps51
    go_wp2_with fail
    refine (refThere w T r R room fuse false s HH.out HN.out).mono ?_
    rw [HTT.out]
    rintro e1 w1 ⟨rfl, rfl⟩
    go_wp2_with fail
    refine (refOperation w T r R room fuse false HH.out HF.out HF2.out).mono ?_
    rintro e1 w1 ⟨rfl, ho1, hr1⟩
    have HO1 := Lib.hid ho1
    have HR1 := Lib.hid hr1
    clear ho1 hr1
    by_cases h0 : opE fuse = 0
    · rw [h0]
      have HC := Lib.hid (HCE.out.trans h0)
      have HZ := Lib.hid h0
      clear h0
      have hkl : k < R.length := (List.getElem?_eq_some_iff.1 HX.out).1
      obtain ⟨fv, fz, hb, _, hrow, _⟩ := HR1.out.blk
      obtain ⟨g, cap, rfl⟩ : ∃ g cap, fv = .slice (some ⟨g, 0, none⟩) R.length cap := by
        rcases hrow.2 with ⟨rfl, h0⟩ | ⟨g, cap, cur, rfl, _⟩
        · omega
        · exact ⟨_, cap, rfl⟩
      have c0 : w1.cell? ⟨r, 0, none⟩ = some (.slice (some ⟨g, 0, none⟩) R.length cap) := by simp [World.cell?, hb]
      obtain ⟨hxv1, hxv2⟩ := HR1.out.bytes x (List.mem_of_getElem? HX.out)
      obtain ⟨va, vc, hv⟩ : ∃ a c, x.v = .slice a x.bs.length c := by
        rcases hxv1 with ⟨h1, h2⟩ | ⟨ad, c, h1, _⟩
        · exact ⟨none, 0, by rw [h1, h2]; rfl⟩
        · exact ⟨_, c, h1⟩
      have e1 := (hrow.cellAt (k * 3 + 1) (by omega)).trans (refCells_at R k x HX.out).2.1
      have e2 := (hrow.cellAt (k * 3 + 2) (by omega)).trans (refCells_at R k x HX.out).2.2
      rw [hv] at e1
      have z2 : w1.frozen? ⟨g, k * 3 + 2, none⟩ = false := by
        rcases hrow.2 with ⟨h1, _⟩ | ⟨g', cap', cur, hv', _, hg, _⟩
        · cases h1
        · cases hv'
          simp [World.frozen?, hg]
      have hm := (HR1.out.mark HX.out c0 (x.bs.length : Nat))
      have HM := Lib.hid hm
      have q0 : (0 : Int) ≤ (k : Int) := by omega
      have q1 : (k : Int) < (R.length : Int) := by omega
      obtain ⟨n, hN⟩ : ∃ n, R.length = n := ⟨_, rfl⟩
      obtain ⟨b, hB⟩ : ∃ b, x.bs.length = b := ⟨_, rfl⟩
      rw [hN] at c0 hkl q1
      rw [hB] at e1 HM
      have HBB := Lib.hid hB
      clear hrow hb hxv1 hxv2 hv hm hN hB
      go_wp2_with fail
      go_region
      all_goals
        go_wp2_with fail
        go_ret
        refine ⟨by rw [HZ.out]; rfl, R.set k ⟨x.name, x.v, x.bs, (b : Nat)⟩, ?_, ?_, HCAP.out.set k (show capOk x.v from HCAP.out.at_ HX.out), (HM.out.1.drew).more fun x hx => Or.inl hx⟩
        · simp only [syncL, HC.out, if_true, HLK.out]
          have hbs : e.bs.length = b := by rw [← HBB.out]; exact congrArg (fun p : PF => p.bs.length) HPE.out
          have hbb : e.bs = x.bs := congrArg (fun p : PF => p.bs) HPE.out
          rw [hbs, hbb]
          exact like_set HL.out HA.out HX.out HXN.out _ _ _ _
        · exact ((HO1.out.turns HH.out.here).trans ((onlyD_set _ _ _ _).turns HM.out.2) (fun _ hx => .inl hx)).drew
    · have hb : (opE fuse == 0) = false := by simp [h0]
      have hsl : syncL L fuse false s = L := by
        have := HCE.out
        simp [syncL, this, h0]
      have HSL := Lib.hid hsl
      clear h0 hsl
      go_wp2_with fail
      go_ret
      refine ⟨rfl, ?_⟩
      rw [HSL.out]
      exact HO1.out.ref HR1.out HL.out HCAP.out
  · have hb : (t2 == 0) = false := by simp [hz]
    have hg : ¬ (getE L down s).2 = 0 := by rw [← H1.out]; exact hz
    have hce : chE L fuse down s = t2 := by simp only [chE, if_neg hg]; exact H1.out.symm
    have hcf : chF L fuse down s = fuse := by simp [chF, hg]
    have hcd : chD L fuse down s = down := by simp [chD, hg]
    have hsl : syncL L fuse down s = L := by simp [syncL, hce, hz]
    rw [hsl, hce, hcf, hcd]
    clear hce hcf hcd hsl hg h2 hz
    go_enter Try.func51, Try.ntmps51
    go_wp2_with fail
    refine (refThere w T r R room fuse down s HH.out HN.out).mono ?_
    rw [HTT.out]
    rintro e1 w1 ⟨rfl, rfl⟩
    go_wp2_with fail
    go_ret
    exact ⟨rfl, RefIs.same HH.out HL.out HCAP.out⟩
end Go.Proofs.Ytjkgcpbgacdgaaa
