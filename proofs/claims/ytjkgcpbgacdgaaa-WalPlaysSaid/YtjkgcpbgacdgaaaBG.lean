/- The log's Append. Conditions: the log and its disk lie there, the bytes apart from both. -/
import Derived.Test.YtjkgcpbgacdgaaaBF
import Derived.Deep.RegionLaw
namespace Go.Proofs.Ytjkgcpbgacdgaaa
open Go.RowKit
theorem zinfo23 : (Try.prog.info? 23).map (fun i => (i.zero, i.size, i.bytes)) = some (some (.slice none 0 0), 1, 24) := by kernel_rfl
theorem zparts23 : ∃ i, Try.prog.info? 23 = some i ∧ i.zero = some (.slice none 0 0) ∧ i.size = 1 ∧ i.bytes = 24 := by
  have e1 := zinfo23
  cases h : Try.prog.info? 23 with
  | none => rw [h] at e1; cases e1
  | some i =>
    rw [h] at e1
    simp only [Option.map_some, Option.some.injEq, Prod.mk.injEq] at e1
    exact ⟨i, rfl, e1.1, e1.2.1, e1.2.2⟩
def AppendSays (L : List Ent) (room fuse : Int) (down : Bool) (first : Int) (X : List (List Value)) (size : Int) (over : Bool) (b : List Value) (L' : List Ent) (fuse' : Int) (down' : Bool) (X' : List (List Value)) (size' : Int) (over' : Bool) (er : Int) : Prop :=
  (over = true ∧ er = 8 ∧ L' = L ∧ fuse' = fuse ∧ down' = down ∧ X' = X ∧ size' = size ∧ over' = true) ∨
  (over = false ∧ (b.length = 0 ∨ 1048576 < b.length) ∧ er = 1 ∧ L' = L ∧ fuse' = fuse ∧ down' = down ∧ X' = X ∧ size' = size ∧ over' = false) ∨
  (over = false ∧ 0 < b.length ∧ b.length ≤ 1048576 ∧ over' = (er == 8) ∧ X' = (if er = 0 then X ++ [b] else X) ∧
    ((size = 0 ∧ size' = (if er = 0 then ((contL first [(.slice none 0 0, b)]).length : Int) else size) ∧ AnewSays L room fuse down (contL first [(.slice none 0 0, b)]) L' fuse' down' er) ∨
     (size ≠ 0 ∧ size' = (if er = 0 then size + (frameL b).length else size) ∧ GrowSays L room fuse down size (frameL b) L' fuse' down' er)))
def AppendPost (N : Nat → Prop) (W : World) (d m : Nat) (L : List Ent) (room fuse : Int) (down : Bool) (l : Nat) (first : Int) (X : List (Value × List Value)) (size : Int) (over : Bool) (b : List Value) (e : Ending) (w' : World) : Prop :=
  ∃ S' T' L' fuse' down' v' X' size' over' er, e = .returned (.int .i64 er) ∧ Wal N W w' S' T' d m L' room fuse' down' l first v' X' size' over' ∧ AppendSays L room fuse down first (X.map Prod.snd) size over b L' fuse' down' (X'.map Prod.snd) size' over' er
theorem log_set2 {w : World} {l d : Nat} {first size : Int} {v u : Value} {over : Bool} (h : w.heap[l]? = some (logO d first v size over)) : (w.setCell ⟨l, 2, none⟩ u).heap[l]? = some (logO d first u size over) := heap_setCell_same w l 2 _ 86 _ h
set_option maxHeartbeats 4000000 in
set_option maxRecDepth 100000 in
theorem append18 (N : Nat → Prop) (W w : World) (S T : Nat → Prop) (d m : Nat) (L : List Ent) (room fuse : Int) (down : Bool) (l : Nat) (first : Int) (v : Value) (X : List (Value × List Value)) (size : Int) (over : Bool) (bv : Value) (b : List Value) (h : Wal N W w S T d m L room fuse down l first v X size over)
    (hf : -1 ≤ fuse) (hf2 : fuse < 2 ^ 63) (hr : 0 ≤ room) (hr2 : room < 2 ^ 63) (hb : SrcN w 1 bv b.length b) (hb1 : ∀ u ∈ b, u.oneCell' = true) (hbl : b ≠ [] → ∀ g, bv.ownBlock = some g → ¬ S g ∧ g ≠ l ∧ g < w.heap.size) (hbn : b.length ≤ 140737488355328) (hbytes : lens L ≤ 100000000000000) (hcount : L.length + 1 < maxLen) (hsz : 0 ≤ size ∧ size ≤ 140737488355328) (hX : X.length ≤ 1000000000000) :
    Calls Try.prog 18 #[.pointer (some ⟨l, 0, none⟩), bv] w (AppendPost N W d m L room fuse down l first X size over b) := by
  obtain ⟨i0, hi, hz0, hz1, hz2⟩ := zparts23
  have HI := Lib.hid hi
  have HZ0 := Lib.hid hz0
  have HZ1 := Lib.hid hz1
  have HZ2 := Lib.hid hz2
  obtain ⟨ba, bc, rfl⟩ := hb.form
  obtain ⟨c0, c1, c2, c3, c4, _⟩ := log_cells h.log.blk
  obtain ⟨bn, hbn'⟩ : ∃ n, b.length = n := ⟨_, rfl⟩
  have HH := Lib.hid h
  have HB := Lib.hid hb
  have HB1 := Lib.hid hb1
  have HBL := Lib.hid hbl
  have HBN := Lib.hid hbn'
  have HBY := Lib.hid hbytes
  have HCT := Lib.hid hcount
  have HSZ := Lib.hid hsz
  have HF := Lib.hid (And.intro hf (And.intro hf2 (And.intro hr hr2)))
  have HXN := Lib.hid hX
  rw [hbn'] at hbn ⊢
  clear hi hz0 hz1 hz2 h hb hb1 hbl hbn' hbytes hcount hsz hf hf2 hr hr2 hX
  cases over with
  | true =>
    go_enter Try.func18, Try.ntmps18
    go_wp2_with fail
    go_ret
    exact ⟨S, T, L, fuse, down, v, X, size, true, 8, rfl, HH.out, .inl ⟨rfl, rfl, rfl, rfl, rfl, rfl, rfl, rfl⟩⟩
  | false =>
    by_cases h0 : bn = 0
    · subst h0
      go_enter Try.func18, Try.ntmps18
      go_wp2_with fail
      go_ret
      exact ⟨S, T, L, fuse, down, v, X, size, false, 1, rfl, HH.out, .inr (.inl ⟨rfl, .inl HBN.out, rfl, rfl, rfl, rfl, rfl, rfl, rfl⟩)⟩
    · by_cases h1 : 1048576 < bn
      · go_enter Try.func18, Try.ntmps18
        go_wp2_with fail
        go_ret
        exact ⟨S, T, L, fuse, down, v, X, size, false, 1, rfl, HH.out, .inr (.inl ⟨rfl, .inr (by rw [HBN.out]; exact h1), rfl, rfl, rfl, rfl, rfl, rfl, rfl⟩)⟩
      · have hb0 : ((bn : Int) == 0) = false := by simp [h0]
        have hb2 : decide (1048576 < (bn : Int)) = false := by simp; omega
        have HB02 := Lib.hid (And.intro (show 0 < bn by omega) (show bn ≤ 1048576 by omega))
        have hbm : b ≠ [] := fun e => h0 (by rw [← HBN.out, e]; rfl)
        have HBLL := Lib.hid (HBL.out hbm)
        have hbn9 := HBN.out
        clear h0 h1 hbm
        by_cases hs0 : size = 0
        · subst hs0
          have hw1 := (Below.refl w.heap.size w).alloc (Nat.le_refl _) (.cells #[.slice ba bn bc] 23)
          have HW1 := Lib.hid (HH.out.later hw1)
          have hli : ListAt (w.alloc (.cells #[.slice ba bn bc] 23)) (.slice (some ⟨w.heap.size, 0, none⟩) 1 1) [(.slice ba bn bc, b)] := ⟨.inr ⟨_, 0, 1, rfl, fun k x hx => by
            match k, hx with
            | 0, hx => cases hx; simp only [World.cell?, heap_alloc_new w (.cells #[.slice ba bn bc] 23)]; rfl⟩, fun x hx => by
            cases List.mem_singleton.1 hx
            have := HB.out.later hw1
            rw [hbn9] at this
            show SrcN _ 1 (.slice ba bn bc) b.length b
            rw [hbn9]; exact this⟩
          have hcl : (contL first [((Value.slice ba bn bc, b) : Value × List Value)]).length = 16 + bn := by simp [contL, frameL, numL_len, markL, hbn9]; omega
          have HAN := Lib.hid (anew _ S d m l first v first 0 false L room fuse down (.slice (some ⟨w.heap.size, 0, none⟩) 1 1) [(.slice ba bn bc, b)] HW1.out.log.blk HW1.out.not HW1.out.lt HW1.out.disk HF.out.1 HF.out.2.1 HF.out.2.2.1 HF.out.2.2.2 hli (fun x hx => by cases List.mem_singleton.1 hx; exact HB1.out) (by rw [hcl]; have := HB02.out; omega) (by simp) (by rw [hcl]; have := HBY.out; have := HB02.out; omega) HCT.out)
          have HBA := Lib.hid (HB.out.later hw1)
          have HHP := Lib.hid (show w.heap.size ≤ (w.alloc (.cells #[.slice ba bn bc] 23)).heap.size from hw1.size)
          clear hw1 hli hcl hbn9
          go_enter Try.func18, Try.ntmps18
          go_wp2_with fail
          refine HAN.out.mono ?_
          rintro e w2 ⟨L', f', d', er, rfl, ht, hd, hl, hsay⟩
          have hW2 := HW1.out.step ht hd hl
          have HB2 := Lib.hid (HBA.out.same (w' := w2) fun g hg => ht.block g (Nat.lt_of_lt_of_le (HBLL.out g hg).2.2 HHP.out) (fun e => by rcases e with e | e; exact (HBLL.out g hg).1 e; exact (HBLL.out g hg).2.1 e))
          have HSAY := Lib.hid hsay
          clear c0 c1 c2 c3 c4 ht hd hl hsay
          have HHW := Lib.hid hW2
          obtain ⟨k0, _, k2, _, _, k5⟩ := log_cells hW2.log.blk
          have f2 := k5 2
          clear hW2 k5
          by_cases her : er = 0
          · subst her
            obtain ⟨va, vc, rfl⟩ := row_form HHW.out.log.row
            have HROW := Lib.hid HHW.out.log.row
            have HLL := Lib.hid (blk_lt HHW.out.log.blk)
            have HBD := Lib.hid (show SrcN w2.drew 1 (.slice ba bn bc) b.length b by have h := HB2.out.same (w' := w2.drew) fun _ _ => rfl; rw [HBN.out] at h; rw [HBN.out]; exact h)
            have HVL := Lib.hid (fun g (hg : (Value.slice va X.length vc).ownBlock = some g) => HHW.out.log.mine g (.inl hg))
            have HBN1 := Lib.hid (show b.length ≤ 1000000000000 by rw [HBN.out]; have := HB02.out; omega)
            have hxn := HXN.out
            go_wp2_with fail
            go_region_law (first | (go_simp; go_at_call 46; refine (cloneB _ _ b HBD.out HBN1.out).mono ?_; rintro e w3 ⟨v3, rfl, hr3, hb3⟩; obtain ⟨a3, d3, rfl⟩ := row_form hr3; have HR3 := Lib.hid hr3; have HB3 := Lib.hid (((Below.refl w2.heap.size w2).drew).trans hb3); have r2 : w3.cell? ⟨l, 2, none⟩ = some (.slice va X.length vc) := (HB3.out.cell (p := ⟨l, 2, none⟩) HLL.out).trans k2; have HA3 := Lib.hid ((Below.refl w3.heap.size w3).alloc (Nat.le_refl _) (.cells #[.slice a3 b.length d3] 23)); have HSRC3 := Lib.hid (SrcN.of_block (size := 1) (m := 1) (heap_alloc_new w3 (.cells #[.slice a3 b.length d3] 23)) rfl (by simp [Value.oneCell']) 1); have HROW3 := Lib.hid (row_later (row_later HROW.out HB3.out) HA3.out); have hl3 : l < w3.heap.size := Nat.lt_of_lt_of_le HLL.out HB3.out.size; clear hr3 hb3; go_wp2_with fail) | (refine step_append_srcN rfl _ _ 33 rfl 0 23 i0 (.slice none 0 0) 1 24 Try.underlying33 HI.out HZ0.out HZ1.out HZ2.out rfl (by omega) _ X.length _ rfl HROW3.out _ 1 _ rfl HSRC3.out (by unfold maxLen; omega) (by omega) (Nat.zero_le _) ?_; intro a9 c9 w9 hr9 hg9 hat9; have HL9 := Lib.hid ((hg9.block l (Nat.lt_of_lt_of_le hl3 HA3.out.size) (fun e => (HVL.out l e.symm).2.1 rfl)).trans ((HA3.out.block l hl3).trans ((HB3.out.block l HLL.out).trans HHW.out.log.blk))); have r9 : w9.cell? ⟨l, 2, none⟩ = some (.slice va X.length vc) := (log_cells HL9.out).2.2.1; have s9 : w9.frozen? ⟨l, 2, none⟩ = false := (log_cells HL9.out).2.2.2.2.2 2; have HR9 := Lib.hid hr9; have HG9 := Lib.hid hg9; have HAT9 := Lib.hid hat9; clear hr9 hg9 hat9))
            all_goals
              go_wp2_with fail
              go_ret
              exact ⟨_, _, L', f', d', _, _, _, _, 0, rfl, HHW.out.push HB3.out HR3.out HB1.out HG9.out HR9.out HAT9.out HL9.out, .inr (.inr ⟨rfl, by rw [HBN.out]; exact HB02.out.1, by rw [HBN.out]; exact HB02.out.2, rfl, by rw [List.map_append, if_pos rfl]; rfl, .inl ⟨rfl, rfl, HSAY.out⟩⟩)⟩
          · have hern : (er == 0) = false := by simp [her]
            go_wp2_with fail
            go_ret
            exact ⟨_, _, L', f', d', v, X, _, _, er, rfl, HHW.out, .inr (.inr ⟨rfl, by rw [HBN.out]; exact HB02.out.1, by rw [HBN.out]; exact HB02.out.2, rfl, by rw [if_neg her], .inl ⟨rfl, rfl, HSAY.out⟩⟩)⟩
        · have hs9 : (size == 0) = false := by simp [hs0]
          have HS0 := Lib.hid hs0
          have HFR := Lib.hid (frame w (.slice ba bn bc) b (by have h := HB.out; rw [hbn9] at h; rw [hbn9]; exact h) (by rw [hbn9]; have := HB02.out; omega))
          have hfl : (frameL b).length = 4 + bn := by simp [frameL, numL_len, hbn9]
          have HFL := Lib.hid hfl
          clear hs0 hfl hbn9
          go_enter Try.func18, Try.ntmps18
          go_wp2_with fail
          refine HFR.out.mono ?_
          rintro e w1 ⟨v1, rfl, hr1, hb1⟩
          have HW1 := Lib.hid (HH.out.later hb1)
          have HGR := Lib.hid (grow w1 S d m l first v size false L room fuse down v1 (frameL b) HW1.out.log.blk HW1.out.not HW1.out.disk HF.out.1 HF.out.2.1 HF.out.2.2.1 HF.out.2.2.2 (row_srcAt hr1 HH.out.lt (frameL_one HB1.out)) (by rw [HFL.out]; have := HBY.out; have := HB02.out; omega) (by have := HCT.out; omega) HSZ.out)
          obtain ⟨fa, fc, rfl⟩ := row_form hr1
          have HBA := Lib.hid (HB.out.later hb1)
          have HHP := Lib.hid hb1.size
          clear hr1 hb1 c0 c1 c2 c3 c4
          go_wp2_with fail
          refine HGR.out.mono ?_
          rintro e w2 ⟨L', f', d', er, rfl, ht, hd, hl, hsay⟩
          have hW2 := HW1.out.step ht hd hl
          have HB2 := Lib.hid (HBA.out.same (w' := w2) fun g hg => ht.block g (Nat.lt_of_lt_of_le (HBLL.out g hg).2.2 HHP.out) (fun e => by rcases e with e | e; exact (HBLL.out g hg).1 e; exact (HBLL.out g hg).2.1 e))
          have HSAY := Lib.hid hsay
          clear ht hd hl hsay
          have HHW := Lib.hid hW2
          obtain ⟨k0, _, k2, _, _, k5⟩ := log_cells hW2.log.blk
          have f2 := k5 2
          clear hW2 k5
          by_cases her : er = 0
          · subst her
            obtain ⟨va, vc, rfl⟩ := row_form HHW.out.log.row
            have HROW := Lib.hid HHW.out.log.row
            have HLL := Lib.hid (blk_lt HHW.out.log.blk)
            have HBD := Lib.hid (show SrcN w2.drew 1 (.slice ba bn bc) b.length b by have h := HB2.out.same (w' := w2.drew) fun _ _ => rfl; rw [HBN.out] at h; rw [HBN.out]; exact h)
            have HVL := Lib.hid (fun g (hg : (Value.slice va X.length vc).ownBlock = some g) => HHW.out.log.mine g (.inl hg))
            have HBN1 := Lib.hid (show b.length ≤ 1000000000000 by rw [HBN.out]; have := HB02.out; omega)
            have hxn := HXN.out
            go_wp2_with fail
            go_region_law (first | (go_simp; go_at_call 46; refine (cloneB _ _ b HBD.out HBN1.out).mono ?_; rintro e w3 ⟨v3, rfl, hr3, hb3⟩; obtain ⟨a3, d3, rfl⟩ := row_form hr3; have HR3 := Lib.hid hr3; have HB3 := Lib.hid (((Below.refl w2.heap.size w2).drew).trans hb3); have r2 : w3.cell? ⟨l, 2, none⟩ = some (.slice va X.length vc) := (HB3.out.cell (p := ⟨l, 2, none⟩) HLL.out).trans k2; have HA3 := Lib.hid ((Below.refl w3.heap.size w3).alloc (Nat.le_refl _) (.cells #[.slice a3 b.length d3] 23)); have HSRC3 := Lib.hid (SrcN.of_block (size := 1) (m := 1) (heap_alloc_new w3 (.cells #[.slice a3 b.length d3] 23)) rfl (by simp [Value.oneCell']) 1); have HROW3 := Lib.hid (row_later (row_later HROW.out HB3.out) HA3.out); have hl3 : l < w3.heap.size := Nat.lt_of_lt_of_le HLL.out HB3.out.size; clear hr3 hb3; go_wp2_with fail) | (refine step_append_srcN rfl _ _ 33 rfl 0 23 i0 (.slice none 0 0) 1 24 Try.underlying33 HI.out HZ0.out HZ1.out HZ2.out rfl (by omega) _ X.length _ rfl HROW3.out _ 1 _ rfl HSRC3.out (by unfold maxLen; omega) (by omega) (Nat.zero_le _) ?_; intro a9 c9 w9 hr9 hg9 hat9; have HL9 := Lib.hid ((hg9.block l (Nat.lt_of_lt_of_le hl3 HA3.out.size) (fun e => (HVL.out l e.symm).2.1 rfl)).trans ((HA3.out.block l hl3).trans ((HB3.out.block l HLL.out).trans HHW.out.log.blk))); have r9 : w9.cell? ⟨l, 2, none⟩ = some (.slice va X.length vc) := (log_cells HL9.out).2.2.1; have s9 : w9.frozen? ⟨l, 2, none⟩ = false := (log_cells HL9.out).2.2.2.2.2 2; have HR9 := Lib.hid hr9; have HG9 := Lib.hid hg9; have HAT9 := Lib.hid hat9; clear hr9 hg9 hat9))
            all_goals
              go_wp2_with fail
              go_ret
              exact ⟨_, _, L', f', d', _, _, _, _, 0, rfl, HHW.out.push HB3.out HR3.out HB1.out HG9.out HR9.out HAT9.out HL9.out, .inr (.inr ⟨rfl, by rw [HBN.out]; exact HB02.out.1, by rw [HBN.out]; exact HB02.out.2, rfl, by rw [List.map_append, if_pos rfl]; rfl, .inr ⟨HS0.out, rfl, HSAY.out⟩⟩)⟩
          · have hern : (er == 0) = false := by simp [her]
            go_wp2_with fail
            go_ret
            exact ⟨_, _, L', f', d', v, X, _, _, er, rfl, HHW.out, .inr (.inr ⟨rfl, by rw [HBN.out]; exact HB02.out.1, by rw [HBN.out]; exact HB02.out.2, rfl, by rw [if_neg her], .inr ⟨HS0.out, rfl, HSAY.out⟩⟩)⟩
end Go.Proofs.Ytjkgcpbgacdgaaa
