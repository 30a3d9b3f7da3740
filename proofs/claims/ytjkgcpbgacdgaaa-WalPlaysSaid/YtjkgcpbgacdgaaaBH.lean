/- The log's Trim. Conditions: the log and its disk lie there. -/
import Derived.Test.YtjkgcpbgacdgaaaBG
namespace Go.Proofs.Ytjkgcpbgacdgaaa
open Go.RowKit
def TrimSays (L : List Ent) (room fuse : Int) (down : Bool) (first : Int) (X : List (List Value)) (size : Int) (over : Bool) (n : Int) (L' : List Ent) (fuse' : Int) (down' : Bool) (first' : Int) (X' : List (List Value)) (size' : Int) (over' : Bool) (er : Int) : Prop :=
  (over = true ∧ er = 8 ∧ L' = L ∧ fuse' = fuse ∧ down' = down ∧ first' = first ∧ X' = X ∧ size' = size ∧ over' = true) ∨
  (over = false ∧ (n < first ∨ first + X.length < n) ∧ er = 3 ∧ L' = L ∧ fuse' = fuse ∧ down' = down ∧ first' = first ∧ X' = X ∧ size' = size ∧ over' = false) ∨
  (over = false ∧ n = first ∧ er = 0 ∧ L' = L ∧ fuse' = fuse ∧ down' = down ∧ first' = first ∧ X' = X ∧ size' = size ∧ over' = false) ∨
  (over = false ∧ ∃ k : Nat, n = first + k ∧ 0 < k ∧ k ≤ X.length ∧ over' = (er == 8) ∧ first' = (if er = 0 then n else first) ∧ X' = (if er = 0 then X.drop k else X) ∧
     size' = (if er = 0 then ((contL n ((X.drop k).map fun x => (.slice none 0 0, x))).length : Int) else size) ∧ AnewSays L room fuse down (contL n ((X.drop k).map fun x => (.slice none 0 0, x))) L' fuse' down' er)
def TrimPost (N : Nat → Prop) (W : World) (d m : Nat) (L : List Ent) (room fuse : Int) (down : Bool) (l : Nat) (first : Int) (X : List (Value × List Value)) (size : Int) (over : Bool) (n : Int) (e : Ending) (w' : World) : Prop :=
  ∃ S' T' L' fuse' down' first' v' X' size' over' er, e = .returned (.int .i64 er) ∧ Wal N W w' S' T' d m L' room fuse' down' l first' v' X' size' over' ∧ TrimSays L room fuse down first (X.map Prod.snd) size over n L' fuse' down' first' (X'.map Prod.snd) size' over' er
theorem contL_snd (first : Int) (X : List (Value × List Value)) : contL first X = contL first ((X.map Prod.snd).map fun x => (.slice none 0 0, x)) := by
  unfold contL
  congr 1
  rw [List.map_map, List.flatMap_map]; rfl
theorem list_drop {w : World} {T : Nat → Prop} {l d : Nat} {first size : Int} {va : Option Addr} {vc : Nat} {X : List (Value × List Value)} {over : Bool} (h : LogAt w T l d first (.slice va X.length vc) X size over) (kk : Nat) (h0 : 0 < kk) (hk : kk ≤ X.length) : ListAt w (.slice (if vc = kk then va else va.map (·.add (kk * 1))) (X.length - kk) (vc - kk)) (X.drop kk) := by
  refine ⟨?_, fun x hx => (h.ent x (List.mem_of_mem_drop hx)).1⟩
  rcases h.row.2 with ⟨_, h1⟩ | ⟨g, c, cur, hv, _, _, hnc, _⟩
  · omega
  · injection hv with e1 e2 e3
    subst e1 e3
    by_cases hc : vc = kk
    · have h1 : X.drop kk = [] := List.drop_eq_nil_of_le (by omega)
      refine .inr ⟨g, 0, vc - kk, ?_, fun k x hx => by rw [h1] at hx; simp at hx⟩
      rw [if_pos hc, List.length_drop]
    · refine .inr ⟨g, kk, vc - kk, ?_, fun k x hx => ?_⟩
      · rw [if_neg hc, List.length_drop]
        have : (⟨g, 0, none⟩ : Addr).add (kk * 1) = ⟨g, kk, none⟩ := by
          unfold Addr.add
          simp [show kk ≠ 0 by omega]
        rw [Option.map_some, this]
      · rw [List.getElem?_drop] at hx
        have hl : kk + k < X.length := (List.getElem?_eq_some_iff.1 hx).1
        rw [h.row.cellAt (kk + k) (by omega), List.getElem?_map, hx]; rfl
theorem list_src {w : World} {v : Value} {X : List (Value × List Value)} (h : ListAt w v X) : SrcN w 1 v X.length (X.map Prod.fst) := by
  refine ⟨by simp, ?_⟩
  rcases h.1 with ⟨rfl, rfl⟩ | ⟨lb, off, c, rfl, hc⟩
  · exact .inl ⟨rfl, rfl⟩
  · refine .inr ⟨_, c, rfl, fun j u hj => ?_, fun u hu => ?_⟩
    · rw [List.getElem?_map] at hj
      cases hx : X[j]? with
      | none => rw [hx] at hj; cases hj
      | some x =>
        rw [hx] at hj
        cases hj
        have h9 : (⟨lb, off, none⟩ : Addr).add j = ⟨lb, off + j, none⟩ := by
          unfold Addr.add
          by_cases h0 : j = 0 <;> simp [h0]
        rw [h9]; exact hc j x hx
    · obtain ⟨x, hx, rfl⟩ := List.mem_map.1 hu
      obtain ⟨a, c', he⟩ := (h.2 x hx).form
      rw [he]; rfl
theorem log_set1 {w : World} {l d : Nat} {first size z : Int} {v : Value} {over : Bool} (h : w.heap[l]? = some (logO d first v size over)) : (w.setCell ⟨l, 1, none⟩ (.int .i64 z)).heap[l]? = some (logO d z v size over) := heap_setCell_same w l 1 _ 86 _ h
/-- The list is another one, of some of the entries. -/
theorem Wal.part {N : Nat → Prop} {W w w9 : World} {S T : Nat → Prop} {d m : Nat} {L : List Ent} {room fuse : Int} {down : Bool} {l : Nat} {first n : Int} {v v9 : Value} {X X' : List (Value × List Value)} {size : Int} {over : Bool} (h : Wal N W w S T d m L room fuse down l first v X size over) (hg9 : w.grownBy w9 none) (hr9 : w9.ownsRow w.heap.size 23 1 v9 X'.length (X'.map Prod.fst)) (hX : ∀ x ∈ X', x ∈ X) :
    Wal N W ((w9.setCell ⟨l, 1, none⟩ (.int .i64 n)).setCell ⟨l, 2, none⟩ v9) S (With T w ((w9.setCell ⟨l, 1, none⟩ (.int .i64 n)).setCell ⟨l, 2, none⟩ v9)) d m L room fuse down l n v9 X' size over := by
  have hll := blk_lt h.log.blk
  have hs9 := hg9.size
  have hl9 : w9.heap[l]? = some (logO d first v size over) := (hg9.block l hll (fun e => by cases e)).trans h.log.blk
  have hsz : ((w9.setCell ⟨l, 1, none⟩ (.int .i64 n)).setCell ⟨l, 2, none⟩ v9).heap.size = w9.heap.size := by simp
  have hv9 : ∀ g, v9.ownBlock = some g → w.heap.size ≤ g ∧ g < w9.heap.size := fun g hg => hr9.lt g hg
  have old : ∀ k, k < w.heap.size → k ≠ l → ((w9.setCell ⟨l, 1, none⟩ (.int .i64 n)).setCell ⟨l, 2, none⟩ v9).heap[k]? = w.heap[k]? := fun k hk hl => by
    rw [log_other hl, log_other hl, hg9.block k hk (fun e => by cases e)]
  refine h.list ⟨?_, ?_, ?_, by rw [hsz]; exact hs9, fun k hk hn => old k hk (fun e => hn (e ▸ h.log.here))⟩ (log_set2 (log_set1 hl9)) ?_ (fun x hx => ⟨(h.log.ent x (hX x hx)).1.same fun g hg => ?_, (h.log.ent x (hX x hx)).2⟩) (fun g hg => ?_) (fun x hx g hg e => ?_)
  · show w9.os = w.os; exact hg9.os
  · show w9.tape = w.tape; exact hg9.tape
  · show w9.output = w.output; exact hg9.output
  · refine row_low (row_same hr9 fun g hg => ?_) (Nat.zero_le _)
    have h1 := hv9 g hg
    rw [log_other (by omega), log_other (by omega)]
  · have h1 := h.log.mine g (.inr ⟨x, hX x hx, hg⟩)
    exact old g h1.2.2 h1.2.1
  · rw [hsz]
    rcases hg with hg | ⟨x, hx, hg⟩
    · have h1 := hv9 g hg
      exact ⟨.inr h1.1, by omega, h1.2⟩
    · have h1 := h.log.mine g (.inr ⟨x, hX x hx, hg⟩)
      exact ⟨.inl h1.1, h1.2.1, by omega⟩
  · have h1 := h.log.mine g (.inr ⟨x, hX x hx, hg⟩)
    have := hv9 g e
    omega
theorem below_dN (w : World) (q : Nat) : Below w.heap.size w (w.drewN q) := ⟨rfl, rfl, rfl, Nat.le_refl _, fun _ _ => rfl⟩
theorem slice33_from (a : Option Addr) (n c i : Nat) (z : Int) (hz : z = (i : Int)) (hi : i ≤ n) (w' : World) : (Instr.slice 33 (.slice a n c) (some (.int .i64 z)) none none).run Try.prog w' = .ok (.slice (if c = i then a else a.map (·.add (i * 1))) (n - i) (c - i)) w' := by
  subst hz
  have hso : (Try.prog.info? 23).map (·.size) = some 1 := by kernel_rfl
  simp [Instr.slice, Instr.sliceBounds, Instr.sliceBound, asIntOf, go_sem, hi]
set_option maxHeartbeats 4000000 in
set_option maxRecDepth 100000 in
theorem trim21 (N : Nat → Prop) (W w : World) (S T : Nat → Prop) (d m : Nat) (L : List Ent) (room fuse : Int) (down : Bool) (l : Nat) (first : Int) (v : Value) (X : List (Value × List Value)) (size : Int) (over : Bool) (n : Int) (h : Wal N W w S T d m L room fuse down l first v X size over)
    (hf : -1 ≤ fuse) (hf2 : fuse < 2 ^ 63) (hr : 0 ≤ room) (hr2 : room < 2 ^ 63) (hsmall : (contL n X).length ≤ 1000000000000) (hbytes : lens L ≤ 100000000000000) (hcount : L.length + 1 < maxLen) (hX : X.length ≤ 1000000000000) (hfi : -(2 ^ 62) ≤ first ∧ first ≤ 2 ^ 62) :
    Calls Try.prog 21 #[.pointer (some ⟨l, 0, none⟩), .int .i64 n] w (TrimPost N W d m L room fuse down l first X size over n) := by
  obtain ⟨i0, hi, hz0, hz1, hz2⟩ := zparts23
  have HI := Lib.hid hi
  have HZ0 := Lib.hid hz0
  have HZ1 := Lib.hid hz1
  have HZ2 := Lib.hid hz2
  clear hi hz0 hz1 hz2
  obtain ⟨c0, c1, c2, c3, c4, c5⟩ := log_cells h.log.blk
  obtain ⟨va, vc, rfl⟩ := row_form h.log.row
  have HH := Lib.hid h
  have HF := Lib.hid (And.intro hf (And.intro hf2 (And.intro hr hr2)))
  have HSM := Lib.hid hsmall
  have HBY := Lib.hid hbytes
  have HCT := Lib.hid hcount
  have HXN := Lib.hid hX
  have HFI := Lib.hid hfi
  have hnx := next20 w l d first size va X.length vc over h.log.blk hfi (by omega)
  have HNX := Lib.hid hnx
  clear h hf hf2 hr hr2 hsmall hbytes hcount hX hfi hnx c5
  cases over with
  | true =>
    go_enter Try.func21, Try.ntmps21
    go_wp2_with fail
    go_ret
    exact ⟨S, T, L, fuse, down, first, _, X, size, true, 8, rfl, HH.out, .inl ⟨rfl, rfl, rfl, rfl, rfl, rfl, rfl, rfl, rfl⟩⟩
  | false =>
    have hxn := HXN.out
    have hfi := HFI.out
    by_cases h1 : n < first
    · have H1 := Lib.hid h1
      go_enter Try.func21, Try.ntmps21
      go_wp2_with fail
      go_ret
      exact ⟨S, T, L, fuse, down, first, _, X, size, false, 3, rfl, HH.out, .inr (.inl ⟨rfl, .inl H1.out, rfl, rfl, rfl, rfl, rfl, rfl, rfl, rfl⟩)⟩
    · by_cases h2 : first + X.length < n
      · have H2 := Lib.hid h2
        go_enter Try.func21, Try.ntmps21
        go_wp2_with fail
        refine HNX.out.mono ?_
        rintro e w1 ⟨rfl, q, rfl⟩
        go_wp2_with fail
        go_ret
        exact ⟨S, T, L, fuse, down, first, _, X, size, false, 3, rfl, HH.out.later (below_dN w q), .inr (.inl ⟨rfl, .inr (by rw [List.length_map]; exact H2.out), rfl, rfl, rfl, rfl, rfl, rfl, rfl, rfl⟩)⟩
      · obtain ⟨kk, hkk⟩ : ∃ kk : Nat, n = first + kk := ⟨(n - first).toNat, by omega⟩
        have HKK := Lib.hid hkk
        have HKL := Lib.hid (show kk ≤ X.length by omega)
        by_cases h3 : n = first
        · have H3 := Lib.hid h3
          have h3b : (n == first) = true := by simp [h3]
          clear h3 hkk
          go_enter Try.func21, Try.ntmps21
          go_wp2_with fail
          refine HNX.out.mono ?_
          rintro e w1 ⟨rfl, q, rfl⟩
          have d1 : (w.drewN q).cell? ⟨l, 1, none⟩ = some (.int .i64 first) := c1
          go_wp2_with fail
          go_ret
          exact ⟨S, T, L, fuse, down, first, _, X, size, false, 0, rfl, HH.out.later (below_dN w q), .inr (.inr (.inl ⟨rfl, H3.out, rfl, rfl, rfl, rfl, rfl, rfl, rfl, rfl⟩))⟩
        · have H3 := Lib.hid (show 0 < kk by omega)
          have h3b : (n == first) = false := by simp [h3]
          have hsl := fun w' => slice33_from va X.length vc kk (n - first) (by omega) HKL.out w'
          have hli := list_drop HH.out.log kk H3.out HKL.out
          obtain ⟨sa, hsa⟩ : ∃ z, (if vc = kk then va else va.map (·.add (kk * 1))) = z := ⟨_, rfl⟩
          obtain ⟨sc, hsc⟩ : ∃ z, vc - kk = z := ⟨_, rfl⟩
          obtain ⟨sn, hsn⟩ : ∃ z, X.length - kk = z := ⟨_, rfl⟩
          rw [hsa, hsc, hsn] at hsl hli
          have HLI := Lib.hid hli
          have HSA := Lib.hid (And.intro hsa (And.intro hsc hsn))
          clear hli hsa hsc hsn
          clear h3 hkk
          go_enter Try.func21, Try.ntmps21
          go_wp2_with fail
          refine HNX.out.mono ?_
          rintro e w1 ⟨rfl, q, rfl⟩
          have d1 : (w.drewN q).cell? ⟨l, 1, none⟩ = some (.int .i64 first) := c1
          have d2 : (w.drewN q).cell? ⟨l, 2, none⟩ = some (.slice va X.length vc) := c2
          go_wp2_with fail
          go_quiet (fail)
          go_wp2_with fail
          have HBQ := Lib.hid (below_dN w (q + nq))
          have HWQ := Lib.hid (HH.out.later (below_dN w (q + nq)))
          have hliq : ListAt (w.drewN (q + nq)) (.slice sa sn sc) (X.drop kk) := HLI.out
          have hcl : (contL n (X.drop kk)).length ≤ (contL n X).length := by
            unfold contL
            simp only [List.length_append]
            have : ((X.drop kk).flatMap fun x => frameL x.2).length ≤ (X.flatMap fun x => frameL x.2).length := by
              conv => rhs; rw [← List.take_append_drop kk X]
              rw [List.flatMap_append, List.length_append]
              omega
            omega
          have HAN := Lib.hid (anew (w.drewN (q + nq)) S d m l n _ first size false L room fuse down (.slice sa sn sc) (X.drop kk) HWQ.out.log.blk HWQ.out.not HWQ.out.lt HWQ.out.disk HF.out.1 HF.out.2.1 HF.out.2.2.1 HF.out.2.2.2 hliq (fun x hx => HWQ.out.one x (List.mem_of_mem_drop hx)) (by have := HSM.out; omega) (by rw [List.length_drop]; omega) (by have := HSM.out; have := HBY.out; omega) HCT.out)
          clear c0 c1 c2 c3 c4 d1 d2 hliq hcl hsl
          refine HAN.out.mono ?_
          rintro e w2 ⟨L', f', d', er, rfl, ht, hd, hl, hsay⟩
          have hW2 := HWQ.out.step ht hd hl
          have HSAY := Lib.hid hsay
          have HHW := Lib.hid hW2
          obtain ⟨k0, k1, k2, _, _, k5⟩ := log_cells hW2.log.blk
          have f1 := k5 1
          have f2 := k5 2
          clear hW2 k5 ht hd hl hsay
          by_cases her : er = 0
          · subst her
            have hsr := list_src (list_drop HHW.out.log kk H3.out HKL.out)
            rw [HSA.out.1, HSA.out.2.1, HSA.out.2.2, List.length_drop, HSA.out.2.2] at hsr
            have HSR := Lib.hid hsr
            have hsn9 : sn ≤ 1000000000000 := by rw [← HSA.out.2.2]; omega
            have HLL := Lib.hid (blk_lt HHW.out.log.blk)
            have HLM := Lib.hid (show kk ≤ (X.map Prod.snd).length by rw [List.length_map]; exact HKL.out)
            clear hsr
            go_wp2_with (at_builtin; go_must (refine wpList_append_srcN rfl _ _ 33 rfl w2.heap.size 23 i0 (.slice none 0 0) 1 24 Try.underlying33 HI.out HZ0.out HZ1.out HZ2.out rfl (by omega) (.slice none 0 0) 0 [] rfl (World.ownsRow_nil _ _ _ _) _ sn _ rfl HSR.out (by unfold maxLen; omega) (by omega) (Nat.le_refl _) ?_); intro v9 w9 hr9 hg9 hat9; obtain ⟨va9, vc9, rfl⟩ := row_form hr9; have HL9 := Lib.hid ((hg9.block l HLL.out (fun e => by cases e)).trans HHW.out.log.blk); have r1 := (log_cells HL9.out).2.1; have r2 := (log_cells HL9.out).2.2.1; have s1 := (log_cells HL9.out).2.2.2.2.2 1; have s2 := (log_cells HL9.out).2.2.2.2.2 2; have HR9 := Lib.hid hr9; have HG9 := Lib.hid hg9; clear hr9 hg9 hat9)
            go_ret
            have hr9 := HR9.out
            rw [Nat.zero_add, List.nil_append] at hr9
            have hp := HHW.out.part (n := n) (X' := X.drop kk) HG9.out (by rw [List.length_drop, HSA.out.2.2]; exact hr9) (fun x hx => List.mem_of_mem_drop hx)
            rw [Nat.zero_add] at *
            exact ⟨_, _, L', f', d', n, _, X.drop kk, _, _, 0, rfl, hp, .inr (.inr (.inr ⟨rfl, kk, HKK.out, H3.out, HLM.out, rfl, rfl, by rw [if_pos rfl, List.map_drop], by (rw [← List.map_drop, ← contL_snd]; simp), by rw [← List.map_drop, ← contL_snd]; exact HSAY.out⟩))⟩
          · have hern : (er == 0) = false := by simp [her]
            have HLM := Lib.hid (show kk ≤ (X.map Prod.snd).length by rw [List.length_map]; exact HKL.out)
            go_wp2_with fail
            go_ret
            exact ⟨_, T, L', f', d', first, _, X, _, _, er, rfl, HHW.out, .inr (.inr (.inr ⟨rfl, kk, HKK.out, H3.out, HLM.out, rfl, by rw [if_neg her], by rw [if_neg her], by rw [if_neg her, if_neg her], by rw [← List.map_drop, ← contL_snd]; exact HSAY.out⟩))⟩
end Go.Proofs.Ytjkgcpbgacdgaaa
