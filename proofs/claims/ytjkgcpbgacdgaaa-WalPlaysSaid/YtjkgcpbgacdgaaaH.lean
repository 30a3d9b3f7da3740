/- Append. Conditions: the disk lies there whole; what is handed in lies apart from it; all bytes together are no more than a process can hold. -/
import Derived.Test.YtjkgcpbgacdgaaaG
import Derived.Lib.QuietBelow
import Derived.Deep.RegionLaw
namespace Go.Proofs.Ytjkgcpbgacdgaaa
open Go.RowKit Go.Sort
def SrcAt (w : World) (S : Nat → Prop) (src : Value) (xs : List Value) : Prop :=
  (src = .slice none 0 0 ∧ xs = []) ∨ ∃ ad c, src = .slice (some ad) xs.length c ∧ xs.length ≤ c ∧ (xs ≠ [] → ad.block < w.heap.size) ∧ (xs ≠ [] → ¬ S ad.block) ∧ (∀ j u, xs[j]? = some u → w.cell? (ad.add j) = some u) ∧ ∀ u ∈ xs, u.oneCell' = true
theorem SrcAt.form {w : World} {S : Nat → Prop} {src : Value} {xs : List Value} (h : SrcAt w S src xs) : ∃ a c, src = .slice a xs.length c ∧ xs.length ≤ c := by
  rcases h with ⟨rfl, rfl⟩ | ⟨ad, c, rfl, hc, _⟩
  · exact ⟨none, 0, rfl, Nat.le_refl _⟩
  · exact ⟨_, c, rfl, hc⟩
theorem add_block (ad : Addr) (j : Nat) : (ad.add j).block = ad.block := by unfold Addr.add; split <;> rfl
theorem SrcAt.kept {w w' : World} {S : Nat → Prop} {src : Value} {xs : List Value} (h : SrcAt w S src xs) (ht : Turns S w w') : SrcAt w' S src xs := by
  rcases h with h | ⟨ad, c, h1, h2, h3, h4, h5, h6⟩
  · exact .inl h
  · exact .inr ⟨ad, c, h1, h2, fun hne => Nat.lt_of_lt_of_le (h3 hne) ht.size, h4, fun j u hj => ht.cell (h5 j u hj) (by rw [add_block]; exact h4 (by rintro rfl; simp at hj)), h6⟩
theorem SrcAt.more {w : World} {S S' : Nat → Prop} {src : Value} {xs : List Value} (h : SrcAt w S src xs) (hs : ∀ k, S' k → S k ∨ w.heap.size ≤ k) : SrcAt w S' src xs := by
  rcases h with h | ⟨ad, c, h1, h2, h3, h4, h5, h6⟩
  · exact .inl h
  · exact .inr ⟨ad, c, h1, h2, h3, fun hne e => by
      rcases hs _ e with h | h
      · exact h4 hne h
      · have := h3 hne; omega, h5, h6⟩
theorem below_of_regrown {w w' : World} (h : ∃ p : Regrown, w' = grow (redrawn w p.d) p.os) : Below w.heap.size w w' := by
  obtain ⟨p, rfl⟩ := h; exact below_regrown w p.d p.os
theorem src_take {w : World} {S : Nat → Prop} {a : Option Addr} {c j : Nat} {xs : List Value} (h : SrcAt w S (.slice a xs.length c) xs) (hj : j ≤ xs.length) : Src w (.slice a j c) (xs.take j) := by
  have hl : (xs.take j).length = j := by simp; omega
  rcases h with ⟨h1, h2⟩ | ⟨ad, c', h1, h2, h3, h4, h5, h6⟩
  · injection h1 with h1 h1' h1''
    subst h2
    simp at hj
    subst hj h1 h1''
    exact .inl ⟨rfl, rfl⟩
  · injection h1 with h1 h1' h1''
    subst h1 h1''
    refine .inr ⟨ad, c, by rw [hl], fun i u hu => h5 i u ?_, fun u hu => h6 u (List.mem_of_mem_take hu)⟩
    rw [List.getElem?_take] at hu
    split at hu
    · exact hu
    · cases hu
theorem len_le {w : World} {S : Nat → Prop} {d m : Nat} {L : List Ent} {room fuse : Int} {down : Bool} {s : ByteArray} {e : Ent} (h : DiskAt w S d m L room fuse down) (hl : look L s = some e) : e.bs.length ≤ lens L := by
  obtain ⟨L1, L2, rfl, _⟩ := look_parts hl
  simp [lens]
  omega
theorem Loose.form3 {w : World} {e : TypeId} {v : Value} {xs : List Value} (h : Loose w e v xs) : ∃ a n cap, v = .slice a n cap := by
  obtain ⟨a, c, h⟩ := h.form
  exact ⟨a, _, c, h⟩
theorem slice_to (a : Option Addr) (n c j : Nat) (z : Int) (hz : z = (j : Int)) (hj : j ≤ n) (hc : n ≤ c) : ∀ w, (Instr.slice 23 (.slice a n c) none (some (.int .i64 z)) none).run Try.prog w = .ok (.slice a j c) w := by
  intro w
  subst hz
  have h1 : ¬ (c : Int) < j := by omega
  simp [Instr.slice, Instr.sliceBounds, Instr.sliceBound, asIntOf, go_sem]
  omega
theorem zero5 : (Try.prog.info? 5).map (fun i => (i.zero, i.size, i.bytes)) = some (some (.int .u8 0), 1, 1) := by kernel_rfl
set_option maxRecDepth 100000 in
set_option maxHeartbeats 1000000 in
theorem append (w : World) (S : Nat → Prop) (d m : Nat) (L : List Ent) (room fuse : Int) (down : Bool) (s : ByteArray) (src : Value) (xs : List Value) (hs : s.size ≤ maxLen) (h : DiskAt w S d m L room fuse down) (hf : -1 ≤ fuse) (hf2 : fuse < 2 ^ 63) (hr : 0 ≤ room) (hr2 : room < 2 ^ 63) (hsrc : SrcAt w S src xs) (hbytes : lens L + xs.length ≤ 140737488355328) (hcount : L.length < maxLen) :
    Calls Try.prog 13 #[.pointer (some ⟨d, 0, none⟩), .string s, src] w (AppPost w S d m L room fuse down s xs) := by
  obtain ⟨a, c, rfl, hac⟩ := hsrc.form
  have HH := Lib.hid h
  have HS := Lib.hid hsrc
  have HAC := Lib.hid hac
  clear h hsrc hac
  go_enter Try.func13, Try.ntmps13
  go_wp2_with fail
  refine (down28 w S d m L room fuse down HH.out).mono ?_
  rintro e w1 ⟨rfl, rfl⟩
  cases down with
  | true =>
    go_wp2_with fail
    go_ret2
    exact ⟨L, 0, 8, rfl, Turns.refl _ _, HH.out.more (fun _ h => .inl h), .inl ⟨rfl, rfl, rfl, rfl⟩⟩
  | false =>
    go_wp2_with fail
    refine (vname s w1 hs).mono ?_
    rintro e w2 ⟨rfl, hb2⟩
    have HB2 := Lib.hid hb2
    clear hb2
    cases hn : nameB s.data.toList with
    | false =>
      have HN := Lib.hid hn
      clear hn
      go_wp2_with fail
      go_ret2
      exact ⟨L, 0, 1, rfl, Turns.of_below HB2.out, by simp only [apF, apD, HN.out]; exact (HH.out.later HB2.out).more (fun _ h => .inl h), .inr (.inl ⟨rfl, HN.out, rfl, rfl, rfl⟩)⟩
    | true =>
      have HN := Lib.hid hn
      clear hn
      go_wp2_with fail
      refine (operation w2 S d m L room fuse false (by exact HH.out.later HB2.out) hf hf2).mono ?_
      rintro e w3 ⟨rfl, ho3, hd3⟩
      have HO3 := Lib.hid ho3
      have HD3 := Lib.hid hd3
      have HT3 := Lib.hid (show Turns S w1 w3 from (Turns.of_below HB2.out).trans (HO3.out.turns HH.out.here.1) (fun _ h => .inl h))
      clear ho3 hd3
      have hapF : apF fuse false s = opF fuse := by simp [apF, HN.out]
      have hapD : apD fuse false s = opD fuse false := by simp [apD, HN.out]
      have HAF := Lib.hid hapF
      have HAD := Lib.hid hapD
      clear hapF hapD
      by_cases h0 : opE fuse = 0
      · have h0b : (opE fuse != 0) = false := by simp [h0]
        have HZ := Lib.hid h0
        clear h0
        have hb := HD3.out.blk
        have c0 : w3.cell? ⟨d, 0, none⟩ = some (.map (some m)) := by simp [World.cell?, hb]
        have c1 : w3.cell? ⟨d, 1, none⟩ = some (.int .i64 room) := by simp [World.cell?, hb]
        have hl := HD3.out.lookup s hs
        have hdl := World.block_lt_of_cell? w3 _ c0
        simp only at hdl
        clear hb
        cases hk : look L s with
        | some e =>
          have HK := Lib.hid hk
          rw [hk] at hl
          simp only [ptrOf] at hl
          clear hk
          go_wp2_with fail
          have hU : ∃ U, U = lens L := ⟨_, rfl⟩
          obtain ⟨U, hU⟩ := hU
          have HU := Lib.hid hU.symm
          have hle : lens (L) = U := HU.out
          have hls : lens (L) < 2 ^ 63 := by rw [hle]; omega
          have cu := fun dn os => Calls.regrown_of (used (grow (redrawn w3 dn) os) S d m (L) room (opF fuse) (opD fuse false) (HD3.out.later (below_regrown w3 dn os)) hls)
          rw [hle] at cu
          clear hU hle
          have k1 : w3.cell? ⟨d, 1, none⟩ = some (.int .i64 room) := by have hb := HD3.out.blk; simp [World.cell?, hb]
          have f1 := cell_regrown k1
          have hU0 : (U : Int) ≤ 140737488355328 := by have := HU.out; omega
          clear k1 c0 c1
          refine wp_region_quiet_below (by kernel_rfl) (by kernel_rfl) ?_
          repeat (go_big_quiet_step ((first | with_reducible exact cu _ _)))
          refine wpQuiet_nil ?_
          intro w5 hw5
          have hj : (if (if room - (U : Int) < 0 then 0 else room - (U : Int)) < (xs.length : Int) then if room - (U : Int) < 0 then 0 else room - (U : Int) else (xs.length : Int)) = ((appN L room xs.length : Nat) : Int) := by
            simp only [appN, HU.out]
            (repeat' split) <;> omega
          rw [hj]
          generalize (if room - (U : Int) < 0 then 0 else room - (U : Int)) = Q
          have hj2 : appN L room xs.length ≤ xs.length := by unfold appN; omega
          obtain ⟨J, hJ⟩ : ∃ J, J = appN L room xs.length := ⟨_, rfl⟩
          rw [← hJ] at hj2 ⊢
          have HJ := Lib.hid hJ
          clear hj hJ
          have hb5 := below_of_regrown hw5
          clear hw5
          have hd5 := HD3.out.later hb5
          have hf5 := (hd5.file _ (look_mem HK.out)).1
          have hef : (e).f < w5.heap.size := World.block_lt_of_cell? w5 ⟨(e).f, 0, none⟩ (u := (e).v) (by simp [World.cell?, hf5])
          have hne : some (e).f ≠ (e).v.ownBlock := fun h => by
            obtain ⟨cur, fz, hc⟩ := (hd5.file _ (look_mem HK.out)).2.cells h.symm
            rw [hf5] at hc; simp at hc
          have HB5 := Lib.hid hb5
          have HD5 := Lib.hid hd5
          have HF5 := Lib.hid hf5
          have HL5 := Lib.hid (hd5.file _ (look_mem HK.out)).2
          have HEF := Lib.hid hef
          have HNE := Lib.hid hne
          clear hb5 hd5 hf5 hef hne
          have HT5 := Lib.hid (show Turns S w1 w5 from HT3.out.trans (Turns.of_below (S := S) HB5.out) (fun _ h => .inl h))
          have HSA := Lib.hid (HS.out.kept HT5.out)
          have HS5 := Lib.hid (show ∀ k, S k → S k ∨ (w1.heap.size ≤ k ∧ k < w5.heap.size) from fun _ h => .inl h)
          have HEK := HK
          obtain ⟨i0, hi, hz0, hz1, hz2⟩ := info_parts zero5
          have HI := Lib.hid hi
          have HI0 := Lib.hid hz0
          have HI1 := Lib.hid hz1
          have HI2 := Lib.hid hz2
          clear hi hz0 hz1 hz2
          go_wp2_with fail
          have hsl := slice_to a xs.length c J J rfl hj2 HAC.out
          have HSR := Lib.hid (src_take (HSA.out) hj2)
          have HBY := Lib.hid (show (e).bs.length + (xs.take J).length ≤ 140737488355328 by have := len_le HD5.out HK.out; simp; omega)
          have f0 : w5.cell? ⟨e.f, 0, none⟩ = some e.v := by simp [World.cell?, HF5.out]
          have z0 : w5.frozen? ⟨e.f, 0, none⟩ = false := by simp [World.frozen?, HF5.out]
          go_region_law (refine step_append_lo _ (by rfl) (.tmp 54) (.tmp 57) 23 (by rfl) 5 i0 _ Try.underlying23 HI.out HI0.out HI1.out HI2.out (by rfl) e.v e.bs (by rfl) (HL5.out) (.slice a J c) (xs.take J) (by rfl) (HSR.out) (HBY.out) ?_; intro v6 w6 hl6 hg6 hat6; obtain ⟨a6, n6, c6, rfl⟩ := hl6.form3; have z6 : w6.frozen? ⟨e.f, 0, none⟩ = false := (World.frozen?_of_block (hg6.block _ HEF.out HNE.out)).trans z0; have f6 : w6.cell? ⟨e.f, 0, none⟩ = some e.v := hg6.cell f0 HNE.out)
          have HEND := Lib.hid (append_end HD5.out HEK.out HT5.out HS5.out hl6 ⟨hg6.os, hg6.tape, hg6.output, hg6.size, hg6.block⟩ hat6)
          clear hl6 hg6 hat6
          by_cases hlt : J < xs.length
          · have hlt' : (J : Int) < (xs.length : Int) := by omega
            have HLT := Lib.hid hlt
            clear hlt
            go_wp2_with fail
            go_ret2
            exact ⟨_, J, 7, rfl, HEND.out.1, by rw [HAF.out, HAD.out]; exact HEND.out.2, .inr (.inr (.inr ⟨rfl, HN.out, HZ.out, HJ.out, (if_pos HLT.out).symm, ⟨0, _, by simp only [addE, HK.out]; rfl⟩⟩))⟩
          · have hlt' : ¬ (J : Int) < (xs.length : Int) := by omega
            have HLT := Lib.hid hlt
            clear hlt
            go_wp2_with fail
            go_ret2
            exact ⟨_, J, 0, rfl, HEND.out.1, by rw [HAF.out, HAD.out]; exact HEND.out.2, .inr (.inr (.inr ⟨rfl, HN.out, HZ.out, HJ.out, (if_neg HLT.out).symm, ⟨0, _, by simp only [addE, HK.out]; rfl⟩⟩))⟩
        | none =>
          have HK := Lib.hid hk
          rw [hk] at hl
          simp only [ptrOf] at hl
          clear hk
          go_wp2_with (first
            | (at_mapUpdate; refine wpList_mapUpdate_in _ rfl _ _ _ 76 rfl 9 80 (Maps.string_keyed Try.underlying9) Try.underlying76 ptrE m L.length _ rfl (HD3.out.map.alloc _) hcount _ _ (key s) rfl rfl (WideMaps.keyOf_string_mk Try.underlying9 hs) (.lit (.int .u64 w3.heap.size)) [] rfl ?_; intro w4 hown4 hturn4)
            | fail)
          go_frame
          have hd4 : DiskAt w4 (With S w3 w4) d m (insE ⟨s, w3.heap.size, .slice none 0 0, [], 0⟩ L) room (opF fuse) (opD fuse false) := by
            have hg := hturn4.grown
            have hmlt := HD3.out.map.lt
            refine HD3.out.insert s w3.heap.size (Nat.le_refl _) ?_ ?_ (fun _ h => .inl h) (.inr ⟨Nat.le_refl _, ?_⟩) ?_
            · rw [hg.block _ (by simp) (by simp; omega)]
              exact heap_alloc_new w3 _
            · rw [put_none HK.out w3.heap.size (.slice none 0 0) [] 0] at hown4
              exact hown4
            · have := hg.size; simp at this; omega
            · intro k hk hkm
              rw [hg.block k (by simp; omega) (by simp; exact hkm)]
              exact ((Below.refl w3.heap.size w3).alloc (Nat.le_refl _) _).block k hk
          have HT4 := Lib.hid (show Turns S w1 w4 from HT3.out.trans (show Turns S w3 w4 from by
            have hg := hturn4.grown
            refine ((Turns.of_below (S := S) ((Below.refl w3.heap.size w3).alloc (Nat.le_refl _) _)).trans (Turns.of_grown (S := S) hg (fun k hk => ?_)) (fun _ h => .inl h))
            injection hk with hk
            subst hk
            exact HD3.out.here.2) (fun _ h => .inl h))
          have HD4 := Lib.hid hd4
          have HK4 := Lib.hid (look_ins HK.out w3.heap.size (.slice none 0 0) [] 0)
          clear hd4 hown4 hturn4
          have hU : ∃ U, U = lens L := ⟨_, rfl⟩
          obtain ⟨U, hU⟩ := hU
          have HU := Lib.hid hU.symm
          have hle : lens (insE ⟨s, w3.heap.size, .slice none 0 0, [], 0⟩ L) = U := by rw [lens_ins, HU.out]; simp
          have hls : lens (insE ⟨s, w3.heap.size, .slice none 0 0, [], 0⟩ L) < 2 ^ 63 := by rw [hle]; omega
          have cu := fun dn os => Calls.regrown_of (used (grow (redrawn w4 dn) os) (With S w3 w4) d m (insE ⟨s, w3.heap.size, .slice none 0 0, [], 0⟩ L) room (opF fuse) (opD fuse false) (HD4.out.later (below_regrown w4 dn os)) hls)
          rw [hle] at cu
          clear hU hle
          have k1 : w4.cell? ⟨d, 1, none⟩ = some (.int .i64 room) := by have hb := HD4.out.blk; simp [World.cell?, hb]
          have f1 := cell_regrown k1
          have hU0 : (U : Int) ≤ 140737488355328 := by have := HU.out; omega
          clear k1 c0 c1
          refine wp_region_quiet_below (by kernel_rfl) (by kernel_rfl) ?_
          repeat (go_big_quiet_step ((first | with_reducible exact cu _ _)))
          refine wpQuiet_nil ?_
          intro w5 hw5
          have hj : (if (if room - (U : Int) < 0 then 0 else room - (U : Int)) < (xs.length : Int) then if room - (U : Int) < 0 then 0 else room - (U : Int) else (xs.length : Int)) = ((appN L room xs.length : Nat) : Int) := by
            simp only [appN, HU.out]
            (repeat' split) <;> omega
          rw [hj]
          generalize (if room - (U : Int) < 0 then 0 else room - (U : Int)) = Q
          have hj2 : appN L room xs.length ≤ xs.length := by unfold appN; omega
          obtain ⟨J, hJ⟩ : ∃ J, J = appN L room xs.length := ⟨_, rfl⟩
          rw [← hJ] at hj2 ⊢
          have HJ := Lib.hid hJ
          clear hj hJ
          have hb5 := below_of_regrown hw5
          clear hw5
          have hd5 := HD4.out.later hb5
          have hf5 := (hd5.file _ (look_mem HK4.out)).1
          have hef : ((⟨s, w3.heap.size, .slice none 0 0, [], 0⟩ : Ent)).f < w5.heap.size := World.block_lt_of_cell? w5 ⟨((⟨s, w3.heap.size, .slice none 0 0, [], 0⟩ : Ent)).f, 0, none⟩ (u := ((⟨s, w3.heap.size, .slice none 0 0, [], 0⟩ : Ent)).v) (by simp [World.cell?, hf5])
          have hne : some ((⟨s, w3.heap.size, .slice none 0 0, [], 0⟩ : Ent)).f ≠ ((⟨s, w3.heap.size, .slice none 0 0, [], 0⟩ : Ent)).v.ownBlock := fun h => by
            obtain ⟨cur, fz, hc⟩ := (hd5.file _ (look_mem HK4.out)).2.cells h.symm
            rw [hf5] at hc; simp at hc
          have HB5 := Lib.hid hb5
          have HD5 := Lib.hid hd5
          have HF5 := Lib.hid hf5
          have HL5 := Lib.hid (hd5.file _ (look_mem HK4.out)).2
          have HEF := Lib.hid hef
          have HNE := Lib.hid hne
          clear hb5 hd5 hf5 hef hne
          have HT5 := Lib.hid (show Turns S w1 w5 from HT4.out.trans (Turns.of_below (S := S) HB5.out) (fun _ h => .inl h))
          have HSA := Lib.hid (HS.out.kept HT5.out)
          have HS5 := Lib.hid (show ∀ k, With S w3 w4 k → S k ∨ (w1.heap.size ≤ k ∧ k < w5.heap.size) from fun k h => by
            rcases h with h | ⟨h1, h2⟩
            · exact .inl h
            · have e1 := HT3.out.size
              have e2 := HB5.out.size
              exact .inr ⟨by omega, by omega⟩)
          have HEK := HK4
          obtain ⟨i0, hi, hz0, hz1, hz2⟩ := info_parts zero5
          have HI := Lib.hid hi
          have HI0 := Lib.hid hz0
          have HI1 := Lib.hid hz1
          have HI2 := Lib.hid hz2
          clear hi hz0 hz1 hz2
          go_wp2_with fail
          have hsl := slice_to a xs.length c J J rfl hj2 HAC.out
          have HSR := Lib.hid (src_take (HSA.out) hj2)
          have HBY := Lib.hid (show ((⟨s, w3.heap.size, .slice none 0 0, [], 0⟩ : Ent)).bs.length + (xs.take J).length ≤ 140737488355328 by have := HU.out; simp; omega)
          have f0 : w5.cell? ⟨(⟨s, w3.heap.size, .slice none 0 0, [], 0⟩ : Ent).f, 0, none⟩ = some (⟨s, w3.heap.size, .slice none 0 0, [], 0⟩ : Ent).v := by simp [World.cell?, HF5.out]
          have z0 : w5.frozen? ⟨(⟨s, w3.heap.size, .slice none 0 0, [], 0⟩ : Ent).f, 0, none⟩ = false := by simp [World.frozen?, HF5.out]
          go_region_law (refine step_append_lo _ (by rfl) (.tmp 54) (.tmp 57) 23 (by rfl) 5 i0 _ Try.underlying23 HI.out HI0.out HI1.out HI2.out (by rfl) (⟨s, w3.heap.size, .slice none 0 0, [], 0⟩ : Ent).v (⟨s, w3.heap.size, .slice none 0 0, [], 0⟩ : Ent).bs (by rfl) (HL5.out) (.slice a J c) (xs.take J) (by rfl) (HSR.out) (HBY.out) ?_; intro v6 w6 hl6 hg6 hat6; obtain ⟨a6, n6, c6, rfl⟩ := hl6.form3; have z6 : w6.frozen? ⟨(⟨s, w3.heap.size, .slice none 0 0, [], 0⟩ : Ent).f, 0, none⟩ = false := (World.frozen?_of_block (hg6.block _ HEF.out HNE.out)).trans z0; have f6 : w6.cell? ⟨(⟨s, w3.heap.size, .slice none 0 0, [], 0⟩ : Ent).f, 0, none⟩ = some (⟨s, w3.heap.size, .slice none 0 0, [], 0⟩ : Ent).v := hg6.cell f0 HNE.out)
          have HEND := Lib.hid (append_end HD5.out HEK.out HT5.out HS5.out hl6 ⟨hg6.os, hg6.tape, hg6.output, hg6.size, hg6.block⟩ hat6)
          clear hl6 hg6 hat6
          by_cases hlt : J < xs.length
          · have hlt' : (J : Int) < (xs.length : Int) := by omega
            have HLT := Lib.hid hlt
            clear hlt
            go_wp2_with fail
            go_ret2
            exact ⟨_, J, 7, rfl, HEND.out.1, by rw [HAF.out, HAD.out]; exact HEND.out.2, .inr (.inr (.inr ⟨rfl, HN.out, HZ.out, HJ.out, (if_pos HLT.out).symm, ⟨w3.heap.size, _, by simp only [addE, HK.out]; exact setF_ins HK.out _ _ _ _ _ _ _⟩⟩))⟩
          · have hlt' : ¬ (J : Int) < (xs.length : Int) := by omega
            have HLT := Lib.hid hlt
            clear hlt
            go_wp2_with fail
            go_ret2
            exact ⟨_, J, 0, rfl, HEND.out.1, by rw [HAF.out, HAD.out]; exact HEND.out.2, .inr (.inr (.inr ⟨rfl, HN.out, HZ.out, HJ.out, (if_neg HLT.out).symm, ⟨w3.heap.size, _, by simp only [addE, HK.out]; exact setF_ins HK.out _ _ _ _ _ _ _⟩⟩))⟩
      · have h0b : (opE fuse != 0) = true := by simp [h0]
        have HZ := Lib.hid h0
        clear h0
        go_wp2_with fail
        go_ret2
        exact ⟨L, 0, opE fuse, rfl, HT3.out, by rw [HAF.out, HAD.out]; exact HD3.out.more (fun _ h => .inl h), .inr (.inr (.inl ⟨rfl, HN.out, HZ.out, rfl, rfl, rfl⟩))⟩
end Go.Proofs.Ytjkgcpbgacdgaaa
