/- Cut. Condition: the disk lies there whole. -/
import Derived.Test.YtjkgcpbgacdgaaaE
namespace Go.Proofs.Ytjkgcpbgacdgaaa
open Go.RowKit
def isOut (e : Option Ent) (n : Int) : Bool := match e with | some e => decide (n < 0 ∨ (e.bs.length : Int) < n) | none => false
def cutE (L : List Ent) (fuse : Int) (down : Bool) (s : ByteArray) (n : Int) : Int := if isOut (getE L down s).1 n then 3 else chE L fuse down s
def cutF (L : List Ent) (fuse : Int) (down : Bool) (s : ByteArray) (n : Int) : Int := if isOut (getE L down s).1 n then fuse else chF L fuse down s
def cutD (L : List Ent) (fuse : Int) (down : Bool) (s : ByteArray) (n : Int) : Bool := if isOut (getE L down s).1 n then down else chD L fuse down s
def cutV : Value → Nat → Value
  | .slice a _ _, n => .slice a n n
  | v, _ => v
def cutL (L : List Ent) (fuse : Int) (down : Bool) (s : ByteArray) (n : Int) : List Ent :=
  if cutE L fuse down s n = 0 then match look L s with | some e => setF L s (cutV e.v n.toNat) (e.bs.take n.toNat) (min e.syn n) | none => L else L
theorem cut (w : World) (S : Nat → Prop) (d m : Nat) (L : List Ent) (room fuse : Int) (down : Bool) (s : ByteArray) (n : Int) (hs : s.size ≤ maxLen) (h : DiskAt w S d m L room fuse down) (hf : -1 ≤ fuse) (hf2 : fuse < 2 ^ 63) :
    Calls Try.prog 14 #[.pointer (some ⟨d, 0, none⟩), .string s, .int .i64 n] w fun e w' => e = .returned (.int .i64 (cutE L fuse down s n)) ∧ Turns S w w' ∧ w'.heap.size = w.heap.size ∧ DiskAt w' S d m (cutL L fuse down s n) room (cutF L fuse down s n) (cutD L fuse down s n) := by
  have HH := Lib.hid h
  clear h
  go_enter Try.func14, Try.ntmps14
  go_wp2_with fail
  refine (get w S d m L room fuse down s hs HH.out).mono ?_
  rintro e w1 ⟨rfl, rfl⟩
  cases down with
  | true =>
    simp only [getE, if_true, ptrOf]
    go_wp2_with fail
    go_ret
    exact ⟨by simp [cutE, isOut, getE, chE], Turns.refl _ _, rfl, by simp [cutL, cutF, cutD, cutE, isOut, getE, chE, chF, chD]; exact HH.out⟩
  | false =>
    cases hl : look L s with
    | none =>
      have HL := Lib.hid hl
      simp only [getE, hl, ptrOf]
      clear hl
      go_wp2_with fail
      go_ret
      exact ⟨by simp [cutE, isOut, getE, HL.out, chE], Turns.refl _ _, rfl, by simp [cutL, cutF, cutD, cutE, isOut, getE, HL.out, chE, chF, chD]; exact HH.out⟩
    | some e =>
      have HL := Lib.hid hl
      simp only [getE, hl, ptrOf]
      obtain ⟨hf1, hf2⟩ := HH.out.file e (look_mem hl)
      have hc0 : w1.cell? ⟨e.f, 0, none⟩ = some e.v := by simp [World.cell?, hf1]
      have hc1 : w1.cell? ⟨e.f, 1, none⟩ = some (.int .i64 e.syn) := by simp [World.cell?, hf1]
      obtain ⟨a, cap, hv⟩ := hf2.form
      rw [hv] at hc0
      have HF := Lib.hid hf1
      have HF2 := Lib.hid hf2
      have HV := Lib.hid hv
      clear hl hf1 hf2 hv
      have HDN := Lib.hid (show DiskAt w1 S d m L room fuse false from HH.out)
      by_cases hn0 : n < 0
      · have ho : isOut (getE L false s).1 n = true := by simp [isOut, getE, HL.out, hn0]
        have HO := Lib.hid ho
        clear ho
        go_wp2_with fail
        go_ret
        exact ⟨by simp [cutE, HO.out], Turns.refl _ _, rfl, by simp [cutL, cutF, cutD, cutE, HO.out]; exact HDN.out⟩
      · by_cases hn1 : (e.bs.length : Int) < n
        · have ho : isOut (getE L false s).1 n = true := by simp [isOut, getE, HL.out, hn1]
          have HO := Lib.hid ho
          clear ho
          go_wp2_with fail
          go_ret
          exact ⟨by simp [cutE, HO.out], Turns.refl _ _, rfl, by simp [cutL, cutF, cutD, cutE, HO.out]; exact HDN.out⟩
        · have ho : isOut (getE L false s).1 n = false := by simp [isOut, getE, HL.out]; omega
          have HO := Lib.hid ho
          have hce : chE L fuse false s = opE fuse := by simp [chE, getE, HL.out]
          have hcf : chF L fuse false s = opF fuse := by simp [chF, getE, HL.out]
          have hcd : chD L fuse false s = opD fuse false := by simp [chD, getE, HL.out]
          have HCE := Lib.hid hce
          have HCF := Lib.hid hcf
          have HCD := Lib.hid hcd
          clear ho hce hcf hcd
          go_wp2_with fail
          refine (operation w1 S d m L room fuse false HH.out hf hf2).mono ?_
          rintro e' w2 ⟨rfl, hod, hd⟩
          have HOD := Lib.hid hod
          have HD := Lib.hid hd
          clear hod hd hc0 hc1
          by_cases h0 : opE fuse = 0
          · have h0b : (opE fuse == 0) = true := by simp [h0]
            have HZ := Lib.hid h0
            obtain ⟨hf1, hf2⟩ := HD.out.file e (look_mem HL.out)
            have hc0 : w2.cell? ⟨e.f, 0, none⟩ = some e.v := by simp [World.cell?, hf1]
            have hc1 : w2.cell? ⟨e.f, 1, none⟩ = some (.int .i64 e.syn) := by simp [World.cell?, hf1]
            have hz0 : w2.frozen? ⟨e.f, 0, none⟩ = false := by simp [World.frozen?, hf1]
            have hz1 : w2.frozen? ⟨e.f, 1, none⟩ = false := by simp [World.frozen?, hf1]
            rw [HV.out] at hc0
            obtain ⟨j, rfl⟩ : ∃ j : Nat, n = (j : Int) := ⟨n.toNat, by omega⟩
            have hcap : e.bs.length ≤ cap := by
              rcases hf2 with ⟨h1, h2⟩ | ⟨g, cap', cur, h1, _, h3, _⟩
              · rw [h2]; exact Nat.zero_le _
              · rw [HV.out] at h1; injection h1 with _ _ h1; omega
            have hsl : ∀ w, (Instr.slice 23 (.slice a e.bs.length cap) none (some (.int .i64 (j : Int))) (some (.int .i64 (j : Int)))).run Try.prog w = .ok (.slice a j j) w := by
              intro w
              have h1 : ¬ (cap : Int) < j := by omega
              simp [Instr.slice, Instr.sliceBounds, Instr.sliceBound, asIntOf, go_sem]
              omega
            have fin : ∀ z : Int, z = min e.syn j → Turns S w1 ((w2.setCell ⟨e.f, 0, none⟩ (.slice a j j)).setCell ⟨e.f, 1, none⟩ (.int .i64 z)).drew ∧ ((w2.setCell ⟨e.f, 0, none⟩ (.slice a j j)).setCell ⟨e.f, 1, none⟩ (.int .i64 z)).drew.heap.size = w1.heap.size ∧
                DiskAt ((w2.setCell ⟨e.f, 0, none⟩ (.slice a j j)).setCell ⟨e.f, 1, none⟩ (.int .i64 z)).drew S d m (cutL L fuse false s j) room (cutF L fuse false s j) (cutD L fuse false s j) := by
              rintro z rfl
              have o1 := onlyD_set w2 e.f 0 (.slice a j j)
              have o2 := onlyD_set (w2.setCell ⟨e.f, 0, none⟩ (.slice a j j)) e.f 1 (.int .i64 (min e.syn j))
              have hD := HD.out
              have hfm := (hD.mine e (look_mem HL.out)).1
              have hoth : ∀ k, k ≠ e.f → ((w2.setCell ⟨e.f, 0, none⟩ (.slice a j j)).setCell ⟨e.f, 1, none⟩ (.int .i64 (min e.syn j))).heap[k]? = w2.heap[k]? := fun k hk => (o2.2.2.2.2 k hk).trans (o1.2.2.2.2 k hk)
              refine ⟨(HOD.out.turns hD.here.1).trans ((o1.turns hfm).trans (show Turns S _ _ from ⟨(o2.turns hfm).os, (o2.turns hfm).tape, (o2.turns hfm).output, (o2.turns hfm).size, (o2.turns hfm).block⟩) (fun _ h => .inl h)) (fun _ h => .inl h), by rw [World.size_drew, o2.2.2.2.1, o1.2.2.2.1, HOD.out.2.2.2.1], ?_⟩
              obtain ⟨L1, L2, e1, e2⟩ := setF_parts hD HL.out (cutV e.v j) (e.bs.take j) (min e.syn j)
              simp only [cutL, cutE, cutF, cutD, HO.out, HCE.out, HCF.out, HCD.out, HZ.out, if_true, HL.out, Int.toNat_natCast, e2]
              simp only [Bool.false_eq_true, if_false]
              have hcv : cutV e.v j = .slice a j j := by rw [HV.out]; rfl
              refine DiskAt.same ?_ (fun k _ => rfl) (w := (w2.setCell ⟨e.f, 0, none⟩ (.slice a j j)).setCell ⟨e.f, 1, none⟩ (.int .i64 (min e.syn j)))
              generalize opF fuse = F at hD ⊢
              generalize opD fuse false = D at hD ⊢
              have hb1 := heap_setCell_same w2 e.f 0 _ _ (.slice a j j) hf1
              have hb2 := heap_setCell_same _ e.f 1 _ _ (.int .i64 (min e.syn j)) hb1
              have hownb : ∀ g, (cutV e.v j).ownBlock = some g → e.v.ownBlock = some g := by
                intro g hg
                rw [hcv] at hg
                rw [HV.out]
                cases a with
                | none => cases hg
                | some a => exact hg
              rw [e1] at hD
              refine hD.turn (S' := S) (cutV e.v j) (e.bs.take j) (min e.syn j) (by rw [hb2, hcv]; rfl) ?_ (fun _ h => h) (fun g hg => (hD.mine e (by simp)).2 g (hownb g hg)) (fun g hg => .inl (hownb g hg)) (fun k _ hk _ => hoth k hk)
              rcases hf2 with ⟨h1, h2⟩ | ⟨g, cap', cur, h1, h2, h3, h4, h5, h6⟩
              · refine .inl ⟨?_, by rw [h2]; simp⟩
                rw [HV.out] at h1
                injection h1 with h1 h1' h1''
                have : j = 0 := by rw [h2] at hn1; simp at hn1; omega
                rw [hcv, h1, this]
              · have hg : g ≠ e.f := by
                  rintro rfl
                  rw [hf1] at h2; simp at h2
                rw [HV.out] at h1
                injection h1 with h1 h1' h1''
                have hlen : (e.bs.take j).length = j := by simp; omega
                refine .inr ⟨g, j, cur, by rw [hcv, h1, hlen], (hoth g hg).trans h2, by rw [hlen]; exact Nat.le_refl _, by omega, by omega, ?_⟩
                rw [hlen, ← h6, List.take_take]
                congr 1
                omega
            have HFIN := Lib.hid fin
            clear h0 hf1 hf2 fin
            go_wp2_with fail
            go_region
            go_wp2
            · go_ret
              exact ⟨by simp [cutE, HO.out, HCE.out], HFIN.out _ (by omega)⟩
            · go_ret
              exact ⟨by simp [cutE, HO.out, HCE.out], HFIN.out _ (by omega)⟩
          · have h0b : (opE fuse == 0) = false := by simp [h0]
            have HZ := Lib.hid h0
            clear h0
            go_wp2_with fail
            go_ret
            exact ⟨by simp [cutE, HO.out, HCE.out], HOD.out.turns HD.out.here.1, HOD.out.2.2.2.1, by simp [cutL, cutF, cutD, cutE, HO.out, HCE.out, HZ.out, HCF.out, HCD.out]; exact HD.out⟩
end Go.Proofs.Ytjkgcpbgacdgaaa
