/- The document's disk: a file is taken out of its place. Condition: the files' number. -/
import Derived.Test.YtjkgcpbgacdgaaaAH

import Derived.IntWalk
import Derived.Laws.NewBlocks
namespace Go.Proofs.Ytjkgcpbgacdgaaa
open Go.RowKit Go.Sort
def TakePost (w : World) (T : Nat → Prop) (r : Nat) (R : List RFile) (room fuse : Int) (down : Bool) (k : Nat) (x : RFile) (e : Ending) (w' : World) : Prop :=
  e = .returned (.agg #[.string x.name, x.v, .int .i64 x.syn]) ∧ Turns (fun x => x = r) w w' ∧ RefAt w' (With T w w') r (R.eraseIdx k) room fuse down
theorem RefAt.tight {w : World} {T : Nat → Prop} {r : Nat} {R : List RFile} {room fuse : Int} {down : Bool} (h : RefAt w T r R room fuse down) : RefAt w (fun x => T x ∧ x < w.heap.size) r R room fuse down := by
  obtain ⟨fv, fz, hb, hz, hrow, hap⟩ := h.blk
  exact ⟨⟨fv, fz, hb, hz, hrow, fun g hg => ⟨⟨(hap g hg).1, (hrow.lt g hg).2⟩, (hap g hg).2⟩⟩, fun e he => ⟨(h.bytes e he).1, fun g hg => ⟨⟨((h.bytes e he).2 g hg).1, ((h.bytes e he).2 g hg).2.2⟩, ((h.bytes e he).2 g hg).2⟩⟩, h.here, heap_lt hb⟩
/-- Another row of files, laid in new memory from a block on. -/
theorem RefAt.rowH {w w' : World} {T : Nat → Prop} {r : Nat} {R R' : List RFile} {room fuse : Int} {down : Bool} (h : RefAt w T r R room fuse down) (ht : Turns (fun k => k = r) w w') (fv' : Value) (H : Nat) (hH : w.heap.size ≤ H)
    (hb' : ∀ fv fz, w.heap[r]? = some (.cells #[fv, .int .i64 room, .bool (decide (0 ≤ fuse)), .int .i64 fz, .bool down] 96 (0, 0)) → w'.heap[r]? = some (.cells #[fv', .int .i64 room, .bool (decide (0 ≤ fuse)), .int .i64 fz, .bool down] 96 (0, 0)))
    (hrow' : w'.ownsRow H 106 3 fv' R'.length (refCells R')) (hbytes : ∀ e ∈ R', BytesOf w T r e) : RefAt w' (fun x => (T x ∧ x < w.heap.size) ∨ (H ≤ x ∧ x < w'.heap.size)) r R' room fuse down := by
  obtain ⟨fv, fz, hb, hz, hrow, hap⟩ := h.blk
  have hnew := fun g hg => hrow'.lt g hg
  refine ⟨⟨fv', fz, hb' fv fz hb, hz, ?_, fun g hg => ⟨.inr ⟨(hnew g hg).1, (hnew g hg).2⟩, fun e he hg' => ?_⟩⟩, fun e he => ?_, .inl ⟨h.here, heap_lt hb⟩⟩
  · obtain ⟨h0, h1⟩ := hrow'
    refine ⟨h0, ?_⟩
    rcases h1 with h1 | ⟨g, cap, cur, h1, h2, h3⟩
    · exact .inl h1
    · exact .inr ⟨g, cap, cur, h1, Nat.zero_le _, h3⟩
  · have := ((hbytes e he).2 g hg').2.2
    have := (hnew g hg).1
    omega
  · have hB := (hbytes e he).same2 (w' := w') ht.size fun k _ hk hl => ht.block k hl hk
    exact ⟨hB.1, fun g hg => ⟨.inl ⟨(hB.2 g hg).1, ((hbytes e he).2 g hg).2.2⟩, (hB.2 g hg).2⟩⟩
theorem take_end {w w5 w6 : World} {T : Nat → Prop} {r : Nat} {R : List RFile} {room fuse : Int} {down : Bool} (h : RefAt w T r R room fuse down) {k n m c5 B : Nat} {a5 : Option Addr} (hN : R.length = n) (hk : k < n) (hm : m = k + (n - (k + 1)))
    (hBB : w.heap.size = B) (hb : Below w.heap.size w w5) (hrow : w5.ownsRow (B + 2) 106 3 (.slice a5 m c5) m (refCells (R.take k) ++ refCells (R.drop (k + 1)))) (ho : OnlyD B (w5.setCell ⟨r, 0, none⟩ (.slice a5 m c5)) w6) :
    Turns (fun x => x = r) w w6 ∧ RefAt w6 (With T w w6) r (R.eraseIdx k) room fuse down := by
  have hl : m = (R.eraseIdx k).length := by rw [List.length_eraseIdx, hN, if_pos hk, hm]; omega
  have hc : refCells (R.take k) ++ refCells (R.drop (k + 1)) = refCells (R.eraseIdx k) := by
    rw [← refCells_append, List.eraseIdx_eq_take_drop_succ]
  rw [hc] at hrow
  subst hl hBB
  have ho5 := onlyD_set w5 r 0 (.slice a5 (R.eraseIdx k).length c5)
  have hrl : r < w.heap.size := by
    obtain ⟨fv, fz, hb, _⟩ := h.blk
    exact heap_lt hb
  have ht : Turns (fun x => x = r) w (w5.setCell ⟨r, 0, none⟩ (.slice a5 (R.eraseIdx k).length c5)) := (Turns.of_below hb).trans (ho5.turns (S := fun x => x = r) rfl) (fun _ hx => .inl hx)
  have hR := h.rowH (R' := R.eraseIdx k) ht (.slice a5 (R.eraseIdx k).length c5) (w.heap.size + 2) (by omega) (fun fv fz hb0 => by
    have e1 := heap_setCell_same w5 r 0 _ _ (.slice a5 (R.eraseIdx k).length c5) ((hb.block r hrl).trans hb0)
    rw [e1]; rfl) (ownsRow_same hrow fun g hg => ho5.2.2.2.2 g (by have := (hrow.lt g hg).1; omega)) (fun e he => h.bytes e (List.mem_of_mem_eraseIdx he))
  have hR6 := hR.same2 (w' := w6) (by rw [ho.2.2.2.1]; exact Nat.le_refl _) (fun x hx _ => ho.2.2.2.2 x (by rcases hx with hx | hx <;> omega))
  refine ⟨ht.trans (S' := fun x => x = w.heap.size) (ho.turns rfl) (fun x hx => .inr (by omega)), hR6.more fun x hx => ?_⟩
  rcases hx with hx | hx
  · exact .inl hx.1
  · exact .inr ⟨by omega, by rw [ho.2.2.2.1]; exact hx.2⟩
set_option maxRecDepth 100000 in
set_option maxHeartbeats 1000000 in
theorem refTake (w : World) (T : Nat → Prop) (r : Nat) (R : List RFile) (room fuse : Int) (down : Bool) (k : Nat) (x : RFile) (h : RefAt w T r R room fuse down) (hx : R[k]? = some x) (hn : R.length ≤ 1000000000000) :
    Calls Try.prog 78 #[.pointer (some ⟨r, 0, none⟩), .int .i64 k] w (TakePost w T r R room fuse down k x) := by
  have hkl : k < R.length := (List.getElem?_eq_some_iff.1 hx).1
  have hxb := h.bytes x (List.mem_of_getElem? hx)
  obtain ⟨s, v, bs, syn⟩ := x
  obtain ⟨va, vc, hv⟩ : ∃ a c, v = .slice a bs.length c := by
    rcases hxb.1 with ⟨h1, h2⟩ | ⟨ad, c, h1, _⟩
    · simp only at h1 h2
      exact ⟨none, 0, by rw [h1, h2]; rfl⟩
    · exact ⟨_, c, h1⟩
  subst hv
  obtain ⟨fv, fz, hb, _, hrow, _⟩ := h.blk
  obtain ⟨g, cap, rfl⟩ : ∃ g cap, fv = .slice (some ⟨g, 0, none⟩) R.length cap := by
    rcases hrow.2 with ⟨rfl, h0⟩ | ⟨g, cap, cur, rfl, _⟩
    · omega
    · exact ⟨_, cap, rfl⟩
  have c0 : w.cell? ⟨r, 0, none⟩ = some (.slice (some ⟨g, 0, none⟩) R.length cap) := by simp [World.cell?, hb]
  have z0 : w.frozen? ⟨r, 0, none⟩ = false := by simp [World.frozen?, hb]
  obtain ⟨g0, g1, g2⟩ := refCells_at R k _ hx
  have e0 := (hrow.cellAt (k * 3) (by omega)).trans g0
  have e1 := (hrow.cellAt (k * 3 + 1) (by omega)).trans g1
  have e2 := (hrow.cellAt (k * 3 + 2) (by omega)).trans g2
  simp only at e0 e1 e2
  have HROW := Lib.hid hrow
  have hgl := (hrow.lt g rfl).2
  have HH := Lib.hid h
  obtain ⟨n, hN⟩ : ∃ n, R.length = n := ⟨_, rfl⟩
  have HN := Lib.hid hN
  rw [hN] at c0 hn hkl
  obtain ⟨m, hM⟩ : ∃ m, bs.length = m := ⟨_, rfl⟩
  have HM := Lib.hid hM
  rw [hM] at e1 ⊢
  have HC0 := Lib.hid c0
  have HZ0 := Lib.hid z0
  have HRL := Lib.hid (show r < w.heap.size from World.block_lt_of_cell? w _ c0)
  have hz0 : (0 : Int) ≤ (k : Int) := by omega
  have hz1 : (k : Int) < (n : Int) := by omega
  have n1 : r < w.heap.size := HRL.out
  have n2 : g < w.heap.size := by omega
  have n3 : r < w.heap.size + 1 := by omega
  have n4 : g < w.heap.size + 1 := by omega
  have HSL := Lib.hid (show ∀ e ∈ R, ∃ a n c, e.v = .slice a n c from fun e he => by
    rcases (HH.out.bytes e he).1 with ⟨h1, h2⟩ | ⟨ad, c, h1, _⟩
    · exact ⟨none, 0, 0, h1⟩
    · exact ⟨_, _, c, h1⟩)
  rw [hN] at HROW
  clear h hb hrow hN hx hxb g0 g1 g2 z0 hM
  obtain ⟨i0, z0', hi, hz0, hz1, hz2, hz3⟩ := zinfo106
  have HI := Lib.hid hi
  have HI0 := Lib.hid hz0
  have HI1 := Lib.hid hz1
  have HI2 := Lib.hid hz2
  have HI3 := Lib.hid hz3
  clear hi hz0 hz1 hz2 hz3
  go_enter Try.func78, Try.ntmps78
  go_wp2_with fail
  obtain ⟨w1, hw1⟩ : ∃ w1, (w.alloc (.cells #[.string { data := #[] }, .slice none 0 0, .int .i64 0] 106)).alloc (.cells #[.string s, .slice va m vc, .int .i64 syn] 106) = w1 := ⟨_, rfl⟩
  obtain ⟨B, hB⟩ : ∃ B, w.heap.size = B := ⟨_, rfl⟩
  have hb1 : Below w.heap.size w w1 := by rw [← hw1]; exact ((Below.refl _ _).alloc (Nat.le_refl _) _).alloc (by simp) _
  have k4 : w1.heap[B]? = some (.cells #[.string { data := #[] }, .slice none 0 0, .int .i64 0] 106 (0, 0)) := by
    rw [← hw1, ← hB, heap_alloc_old _ _ (by simp)]; exact heap_alloc_new w _
  have k5 : w1.heap[B + 1]? = some (.cells #[.string s, .slice va m vc, .int .i64 syn] 106 (0, 0)) := by
    rw [← hw1, ← hB]
    have := heap_alloc_new (w.alloc (.cells #[.string { data := #[] }, .slice none 0 0, .int .i64 0] 106)) (.cells #[.string s, .slice va m vc, .int .i64 syn] 106)
    simpa using this
  have hs1 : w1.heap.size = B + 2 := by rw [← hw1, ← hB]; simp
  have q0 := (hb1.cell (p := ⟨r, 0, none⟩) HRL.out).trans c0
  have z1 := (hb1.frozen (p := ⟨r, 0, none⟩) HRL.out).trans HZ0.out
  obtain ⟨a2, s1, s2, r1, r2⟩ := cutRow (HROW.out) HN.out (Nat.le_of_lt hkl) HSL.out
  obtain ⟨a2', s1', s3, r1', r3⟩ := cutRow (HROW.out) HN.out (show k + 1 ≤ n by omega) HSL.out
  have e1 : ((k + 1 : Nat) : Int) = (k : Int) + 1 := by omega
  rw [e1] at s3
  have HR2 := Lib.hid r1
  have HR3 := Lib.hid r3
  have HB1 := Lib.hid hb1
  have HK4 := Lib.hid k4
  have HK5 := Lib.hid k5
  have HS1 := Lib.hid hs1
  have HBB := Lib.hid hB
  have hr1 : r < w1.heap.size := by omega
  have HRH := Lib.hid hr1
  have qa : (w1.alloc (.cells #[] 106)).cell? ⟨r, 0, none⟩ = some (.slice (some ⟨g, 0, none⟩) n cap) := ((Far.alloc0 w1 (Nat.le_refl _) _).cell hr1).trans q0
  rw [hw1, hB]
  have hwr : IntKind.i64.wrap ((k : Int) + 1) = (k : Int) + 1 := IntWalk.i64_in _ (by omega)
  clear s2 r1 r2 s1' r1' r3 e1 e2 e0 hb1 k4 k5 hs1 hB hw1 c0 n1 n2 n3 n4 hr1 hgl
  go_region_law
        (first
          | ((refine step_append_srcN (by rfl) _ _ 94 (by rfl) (B + 2) 106 i0 z0' 3 48 Try.underlying94 HI.out HI0.out HI1.out HI2.out HI3.out (by omega) (.slice (some ⟨w1.heap.size, 0, none⟩) 0 0) 0 [] (by rfl) (by first | exact (World.ownsRow_made (w := w1) (base := B + 2) (e := 106) (size := 3) #[] 0 (by have := HS1.out; omega) (by unfold maxLen; omega) rfl).drew | exact World.ownsRow_made (w := w1) (base := B + 2) (e := 106) (size := 3) #[] 0 (by have := HS1.out; omega) (by unfold maxLen; omega) rfl) (.slice (some ⟨g, 0, none⟩) k cap) k (refCells (R.take k)) (by rfl) ((HR2.out.later HB1.out).later (((Below.refl _ _).alloc (Nat.le_refl _) _).drew)) (by unfold maxLen; omega) (by omega) (by have := HS1.out; simp; omega) ?_; intro a4 c4 w4 hr4 hg4 hat4; simp only [Nat.zero_add, List.nil_append] at hr4 hat4; have hf4 := (Far.alloc w1 (Nat.le_refl _) _).trans (Far.grown (by simp) hg4 (fun b hb => by simp [Value.ownBlock] at hb; omega)); have HF4 := Lib.hid hf4; have r4 := (hf4.cell (p := ⟨r, 0, none⟩) HRH.out).trans q0; have hb4 := (HB1.out.alloc HB1.out.size _).drew.grown hg4 (by have := HB1.out.size; simp; omega) (fun b hb => by have := HB1.out.size; simp [Value.ownBlock] at hb; omega); have HB4 := Lib.hid hb4; have HR4 := Lib.hid hr4; have HO4 := Lib.hid (show ∀ b, (Value.slice a4 k c4).ownBlock = some b → w1.heap.size ≤ b from fun b hb => by rcases hat4 b hb with h1 | h1; (simp [Value.ownBlock] at h1; omega); (simp at h1; omega)); clear hr4 hg4 hat4 hf4 hb4))
          | ((refine step_append_srcN (by rfl) _ _ 94 (by rfl) (B + 2) 106 i0 z0' 3 48 Try.underlying94 HI.out HI0.out HI1.out HI2.out HI3.out (by omega) (.slice _ k _) k (refCells (R.take k)) (by rfl) HR4.out (.slice a2' (n - (k + 1)) (cap - (k + 1))) (n - (k + 1)) (refCells (R.drop (k + 1))) (by rfl) (HR3.out.later HB4.out) (by unfold maxLen; omega) (by omega) (by have := HS1.out; have := HF4.out.1; omega) ?_; intro a5 c5 w5 hr5 hg5 hat5; have hf5 := HF4.out.trans (Far.grown (by have := HF4.out.1; omega) hg5 HO4.out); have HF5 := Lib.hid hf5; have hb5 := HB4.out.grown hg5 HB4.out.size (fun b hb => Nat.le_trans HB1.out.size (HO4.out b hb)); have HB5 := Lib.hid hb5; have HR5 := Lib.hid hr5; have r5 := (hf5.cell (p := ⟨r, 0, none⟩) HRH.out).trans q0; have z5 := (hf5.frozen (p := ⟨r, 0, none⟩) HRH.out).trans z1; clear hr5 hg5 hat5 hf5 hb5)))
  all_goals
    have n4 : (w5.setCell ⟨r, 0, none⟩ (.slice a5 (k + (n - (k + 1))) c5)).heap[B]? = _ := ((onlyD_set w5 r 0 _).2.2.2.2 B (by have := HRL.out; have := HBB.out; omega)).trans ((HF5.out.2 B (by have := HS1.out; omega)).trans HK4.out)
    have n5 : (w5.setCell ⟨r, 0, none⟩ (.slice a5 (k + (n - (k + 1))) c5)).heap[B + 1]? = _ := ((onlyD_set w5 r 0 _).2.2.2.2 (B + 1) (by have := HRL.out; have := HBB.out; omega)).trans ((HF5.out.2 (B + 1) (by have := HS1.out; omega)).trans HK5.out)
    clear r4 r5 z5
    obtain ⟨w6, hw6⟩ : ∃ w6, w5.setCell ⟨r, 0, none⟩ (.slice a5 (k + (n - (k + 1))) c5) = w6 := ⟨_, rfl⟩
    have HW6 := Lib.hid hw6
    rw [hw6] at n4 n5 ⊢
    have j0 : w6.cell? ⟨B + 1, 0, none⟩ = some (.string s) := by rw [Lib.cell_of_heap n5]; rfl
    have j1 : w6.cell? ⟨B + 1, 1, none⟩ = some (.slice va m vc) := by rw [Lib.cell_of_heap n5]; rfl
    have j2 : w6.cell? ⟨B + 1, 2, none⟩ = some (.int .i64 syn) := by rw [Lib.cell_of_heap n5]; rfl
    have i0 : w6.cell? ⟨B, 0, none⟩ = some (.string { data := #[] }) := by rw [Lib.cell_of_heap n4]; rfl
    have i1 : w6.cell? ⟨B, 1, none⟩ = some (.slice none 0 0) := by rw [Lib.cell_of_heap n4]; rfl
    have i2 : w6.cell? ⟨B, 2, none⟩ = some (.int .i64 0) := by rw [Lib.cell_of_heap n4]; rfl
    have f0 : w6.frozen? ⟨B, 0, none⟩ = false := by simp [World.frozen?, n4]
    have f1 : w6.frozen? ⟨B, 1, none⟩ = false := by simp [World.frozen?, n4]
    have f2 : w6.frozen? ⟨B, 2, none⟩ = false := by simp [World.frozen?, n4]
    have HN4 := Lib.hid n4
    clear n4 n5 hw6
    go_wp2_with fail
    have m0 := heap_setCell_same w6 B 0 _ _ (.string s) HN4.out
    have m1 := heap_setCell_same _ B 1 _ _ (.slice va m vc) m0
    have m2 := heap_setCell_same _ B 2 _ _ (.int .i64 syn) m1
    have l0 : (w6.setCell ⟨B, 0, none⟩ (.string s)).cell? ⟨B, 0, none⟩ = some (.string s) := by rw [Lib.cell_of_heap m0]; rfl
    have l1 : ((w6.setCell ⟨B, 0, none⟩ (.string s)).setCell ⟨B, 1, none⟩ (.slice va m vc)).cell? ⟨B, 1, none⟩ = some (.slice va m vc) := by rw [Lib.cell_of_heap m1]; rfl
    have l2 : (((w6.setCell ⟨B, 0, none⟩ (.string s)).setCell ⟨B, 1, none⟩ (.slice va m vc)).setCell ⟨B, 2, none⟩ (.int .i64 syn)).cell? ⟨B, 2, none⟩ = some (.int .i64 syn) := by rw [Lib.cell_of_heap m2]; rfl
    refine bodyPost_ret (v := .agg #[.string s, .slice va m vc, .int .i64 syn]) (by simp [results, Try.results78, go_sem, l0, l1, l2]) rfl ⟨rfl, ?_⟩
    rw [← HW6.out]
    refine take_end HH.out HN.out hkl rfl HBB.out HB5.out HR5.out ?_
    exact (((onlyD_set _ B 0 _).trans (onlyD_set _ B 1 _)).trans (onlyD_set _ B 2 _))
end Go.Proofs.Ytjkgcpbgacdgaaa
