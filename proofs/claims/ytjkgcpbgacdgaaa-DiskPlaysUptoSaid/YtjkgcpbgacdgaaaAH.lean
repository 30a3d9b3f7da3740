/- The document's disk: a file is laid in its place. Condition: the files' number. -/
import Derived.Test.YtjkgcpbgacdgaaaAG
import Derived.WalkLawsBesides
import Derived.BigQuiet
import Derived.WalkSpells
import Derived.Deep.RegionHeld3
import Derived.Deep.RegionLaw
namespace Go.Proofs.Ytjkgcpbgacdgaaa
open Go.RowKit Go.Sort
theorem zinfo106 : ∃ i z, Try.prog.info? 106 = some i ∧ i.zero = some z ∧ i.size = 3 ∧ i.bytes = 48 ∧ z.cells.size = 3 := by
  cases h : Try.prog.info? 106 with
  | none => exact absurd h (by intro h; have : (Try.prog.info? 106).isSome = true := by kernel_rfl
                               rw [h] at this; cases this)
  | some i =>
    have e1 : (Try.prog.info? 106).map (fun i => (i.size, i.bytes, i.zero.map (·.cells.size))) = some (3, 48, some 3) := by kernel_rfl
    rw [h] at e1
    simp only [Option.map_some, Option.some.injEq, Prod.mk.injEq] at e1
    obtain ⟨h1, h2, h3⟩ := e1
    cases hz : i.zero with
    | none => rw [hz] at h3; cases h3
    | some z =>
      rw [hz] at h3
      exact ⟨i, z, rfl, hz, h1, h2, by simpa using h3⟩
def PutPost (w : World) (T : Nat → Prop) (r : Nat) (R : List RFile) (room fuse : Int) (down : Bool) (f : RFile) (e : Ending) (w' : World) : Prop :=
  ∃ k : Nat, e = .returned (.int .i64 k) ∧ Place R f.name k ∧ Turns (fun x => x = r) w w' ∧ RefAt w' (With T w w') r (R.take k ++ f :: R.drop k) room fuse down
theorem ref_row_end {w w5 : World} {T : Nat → Prop} {r : Nat} {R R' : List RFile} {room fuse : Int} {down : Bool} (h : RefAt w T r R room fuse down) (hb : Below w.heap.size w w5) {a5 : Option Addr} {m c5 : Nat} (hm : m = R'.length)
    (hrow : w5.ownsRow w.heap.size 106 3 (.slice a5 m c5) m (refCells R')) (hbytes : ∀ e ∈ R', BytesOf w T r e) :
    Turns (fun x => x = r) w (w5.setCell ⟨r, 0, none⟩ (.slice a5 m c5)) ∧ RefAt (w5.setCell ⟨r, 0, none⟩ (.slice a5 m c5)) (With T w (w5.setCell ⟨r, 0, none⟩ (.slice a5 m c5))) r R' room fuse down := by
  subst hm
  have ho := onlyD_set w5 r 0 (.slice a5 R'.length c5)
  have hrl : r < w.heap.size := by
    obtain ⟨fv, fz, hb, _⟩ := h.blk
    exact heap_lt hb
  have ht : Turns (fun x => x = r) w (w5.setCell ⟨r, 0, none⟩ (.slice a5 R'.length c5)) := (Turns.of_below hb).trans (ho.turns (S := fun x => x = r) rfl) (fun _ hx => .inl hx)
  refine ⟨ht, h.row ht (.slice a5 R'.length c5) (fun fv fz hb0 => ?_) ?_ hbytes⟩
  · have e1 := heap_setCell_same w5 r 0 _ _ (.slice a5 R'.length c5) ((hb.block r hrl).trans hb0)
    rw [e1]; rfl
  · refine ownsRow_same hrow fun g hg => ho.2.2.2.2 g ?_
    have := (hrow.lt g hg).1
    omega
theorem put_end {w w5 : World} {T : Nat → Prop} {r : Nat} {R : List RFile} {room fuse : Int} {down : Bool} {f : RFile} (h : RefAt w T r R room fuse down) (hf : BytesOf w T r f) {k n m c5 : Nat} {a5 : Option Addr} (hN : R.length = n) (hk : k ≤ n) (hp : Place R f.name k) (hm : m = k + 1 + (n - k))
    (hb : Below w.heap.size w w5) (hrow : w5.ownsRow w.heap.size 106 3 (.slice a5 m c5) m (refCells (R.take k) ++ [.string f.name, f.v, .int .i64 f.syn] ++ refCells (R.drop k))) :
    PutPost w T r R room fuse down f (.returned (.int .i64 (k : Int))) (w5.setCell ⟨r, 0, none⟩ (.slice a5 m c5)) := by
  have hl : m = (R.take k ++ f :: R.drop k).length := by
    rw [List.length_append, List.length_take, List.length_cons, List.length_drop, hN, hm]; omega
  have hc : refCells (R.take k) ++ [.string f.name, f.v, .int .i64 f.syn] ++ refCells (R.drop k) = refCells (R.take k ++ f :: R.drop k) := by
    rw [refCells_append]; simp [refCells]
  rw [hc] at hrow
  obtain ⟨h1, h2⟩ := ref_row_end h hb hl hrow (fun e he => by
    rcases List.mem_append.1 he with he | he
    · exact h.bytes e (List.mem_of_mem_take he)
    · rcases List.mem_cons.1 he with rfl | he
      · exact hf
      · exact h.bytes e (List.mem_of_mem_drop he))
  exact ⟨k, rfl, hp, h1, h2⟩
set_option maxRecDepth 100000 in
set_option maxHeartbeats 1000000 in
theorem refPut (w : World) (T : Nat → Prop) (r : Nat) (R : List RFile) (room fuse : Int) (down : Bool) (f : RFile) (h : RefAt w T r R room fuse down) (hf : BytesOf w T r f) (hn : R.length ≤ 1000000000000) :
    Calls Try.prog 76 #[.pointer (some ⟨r, 0, none⟩), .agg #[.string f.name, f.v, .int .i64 f.syn]] w (PutPost w T r R room fuse down f) := by
  obtain ⟨s, v, bs, syn⟩ := f
  obtain ⟨va, vc, hv⟩ : ∃ a c, v = .slice a bs.length c := by
    rcases hf.1 with ⟨h1, h2⟩ | ⟨ad, c, h1, _⟩
    · simp only at h1 h2
      exact ⟨none, 0, by rw [h1, h2]; rfl⟩
    · exact ⟨_, c, h1⟩
  subst hv
  obtain ⟨fv, fz, hb, _, hrow, _⟩ := h.blk
  have hfo : ∃ a cap, fv = .slice a R.length cap := by
    rcases hrow.2 with ⟨rfl, h0⟩ | ⟨g, cap, cur, rfl, _⟩
    · exact ⟨none, 0, by rw [h0]⟩
    · exact ⟨_, cap, rfl⟩
  obtain ⟨a, cap, rfl⟩ := hfo
  have c0 : w.cell? ⟨r, 0, none⟩ = some (.slice a R.length cap) := by simp [World.cell?, hb]
  have z0 : w.frozen? ⟨r, 0, none⟩ = false := by simp [World.frozen?, hb]
  have HB := Lib.hid hb
  have HROW := Lib.hid hrow
  have HH := Lib.hid h
  have HF := Lib.hid hf
  obtain ⟨n, hN⟩ : ∃ n, R.length = n := ⟨_, rfl⟩
  have HN := Lib.hid hN
  rw [hN] at c0 hn
  obtain ⟨m, hM⟩ : ∃ m, bs.length = m := ⟨_, rfl⟩
  have HM := Lib.hid hM
  rw [hM]
  clear h hb hrow hf hN hM
  obtain ⟨i0, z0', hi, hz0, hz1, hz2, hz3⟩ := zinfo106
  have HI := Lib.hid hi
  have HI0 := Lib.hid hz0
  have HI1 := Lib.hid hz1
  have HI2 := Lib.hid hz2
  have HI3 := Lib.hid hz3
  clear hi hz0 hz1 hz2 hz3
  go_enter Try.func76, Try.ntmps76
  go_wp2_with fail
  obtain ⟨w1, hw1⟩ : ∃ w1, w.alloc (.cells #[.string s, .slice va m vc, .int .i64 syn] 106) = w1 := ⟨_, rfl⟩
  obtain ⟨B, hB⟩ : ∃ B, w.heap.size = B := ⟨_, rfl⟩
  have hb1 : Below w.heap.size w w1 := by rw [← hw1]; exact (Below.refl _ _).alloc (Nat.le_refl _) _
  have n1 : w1.heap[B]? = some (.cells #[.string s, .slice va m vc, .int .i64 syn] 106 (0, 0)) := by rw [← hw1, ← hB]; exact heap_alloc_new w _
  have HN1 := Lib.hid n1
  have HB1 := Lib.hid hb1
  have k0 : w1.cell? ⟨r, 0, none⟩ = some (.slice a n cap) := hb1.cell (p := ⟨r, 0, none⟩) (World.block_lt_of_cell? w _ c0) |>.trans c0
  have s0 : w1.cell? ⟨B, 0, none⟩ = some (.string s) := by rw [Lib.cell_of_heap n1]; rfl
  have s1 : w1.cell? ⟨B, 1, none⟩ = some (.slice va m vc) := by rw [Lib.cell_of_heap n1]; rfl
  have s2 : w1.cell? ⟨B, 2, none⟩ = some (.int .i64 syn) := by rw [Lib.cell_of_heap n1]; rfl
  have y0 : w1.frozen? ⟨r, 0, none⟩ = false := (hb1.frozen (p := ⟨r, 0, none⟩) (World.block_lt_of_cell? w _ c0)).trans z0
  have HBB := Lib.hid hB
  obtain ⟨V, hV⟩ : ∃ V, V = Value.slice a n cap := ⟨_, rfl⟩
  have HV := Lib.hid hV
  clear hV
  have HRL := Lib.hid (World.block_lt_of_cell? w _ c0)
  have HC0 := Lib.hid c0
  have HZ0 := Lib.hid z0
  rw [hw1, hB]
  clear n1 hb1 hw1 hB c0 z0
  have HSL := Lib.hid (show ∀ e ∈ R, ∃ a n c, e.v = .slice a n c from fun e he => by
    rcases (HH.out.bytes e he).1 with ⟨h1, h2⟩ | ⟨ad, c, h1, _⟩
    · exact ⟨none, 0, 0, h1⟩
    · exact ⟨_, _, c, h1⟩)
  rw [HN.out] at HROW
  have HCELL : Hid (∀ k x, k < n → R[k]? = some x → ∃ g, a = some ⟨g, 0, none⟩ ∧ w1.cell? ⟨g, k * 3, none⟩ = some (.string x.name)) := Lib.hid (fun k x hlt hx' => by
    have hr := HROW.out
    rcases hr.2 with ⟨_, h0⟩ | ⟨g, cap', cur, hv, _⟩
    · omega
    · injection hv with e1 e2 e3
      subst e1
      refine ⟨g, rfl, ?_⟩
      rw [HB1.out.cell (p := ⟨g, k * 3, none⟩) (hr.lt g rfl).2, hr.cellAt (k * 3) (by omega)]
      exact (refCells_at R k x hx').1)
  go_loopw [5] (fun i wr => ∃ k q : Nat, k ≤ n ∧ i = .int .i64 k ∧ Hid (∀ j, (hj : j < k) → ∀ hj' : j < R.length, Op.bytesLess R[j].name.data.toList s.data.toList = true) ∧ wr = w1.drewN q) (fun i _ => n - (intOf i).toNat)
  case atStart => exact ⟨0, 0, Nat.zero_le _, rfl, Lib.hid (fun j hj => by omega), rfl⟩
  case round =>
    obtain ⟨k, q, hk, rfl, hall, rfl⟩ := hrel
    have HALL := Lib.hid hall
    clear hall
    have hcase : (∃ x, R[k]? = some x ∧ k < n ∧ Op.bytesLess x.name.toList s.toList = true) ∨ (∃ x, R[k]? = some x ∧ k < n ∧ Op.bytesLess x.name.toList s.toList = false) ∨ k = n := by
      by_cases hlt : k < n
      · have hx' := List.getElem?_eq_getElem (l := R) (i := k) (by rw [HN.out]; exact hlt)
        cases hq : Op.bytesLess (R[k]'(by rw [HN.out]; exact hlt)).name.toList s.toList with
        | true => exact .inl ⟨_, hx', hlt, hq⟩
        | false => exact .inr (.inl ⟨_, hx', hlt, hq⟩)
      · exact .inr (.inr (by omega))
    rcases hcase with ⟨x, hx, hlt, hq⟩ | ⟨x, hx, hlt, hq⟩ | hkn
    · obtain ⟨g, rfl, hc⟩ := HCELL.out k x hlt hx
      have HX := Lib.hid hx
      have HE := Lib.hid hq
      have hd : decide ((k : Int) < (n : Int)) = true := by simp; omega
      clear hx
      go_wp2_with fail
      go_quiet (fail)
      go_wp2_with fail
      go_roundw
      case rel =>
        refine ⟨k + 1, _, by omega, by go_num, Lib.hid ?_, rfl⟩
        intro j hj hj'
        by_cases hjk : j = k
        · subst hjk
          have h1 := HE.out
          have h2 := HX.out
          rw [List.getElem?_eq_getElem hj'] at h2
          injection h2 with h2
          rw [h2]
          simpa [ByteArray.toList_eq] using h1
        · exact HALL.out.out j (by omega) hj'
      case measure => simp [intOf]; omega
    case' inr.inl =>
      obtain ⟨g, rfl, hc⟩ := HCELL.out k x hlt hx
      have HPL : Hid (Place R s k) := Lib.hid ⟨by rw [HN.out]; omega, fun j hj hj' => HALL.out.out j hj hj', fun hk' => by
        rw [List.getElem?_eq_getElem hk'] at hx
        injection hx with hx
        rw [hx]
        simpa [ByteArray.toList_eq] using hq⟩
      have hd : decide ((k : Int) < (n : Int)) = true := by simp; omega
      clear hx
      go_wp2_with fail
      go_quiet (fail)
      clear hc hd hq hlt
    case' inr.inr =>
      have HPL : Hid (Place R s k) := Lib.hid ⟨by rw [HN.out]; omega, fun j hj hj' => HALL.out.out j hj hj', fun hk' => by rw [HN.out] at hk'; omega⟩
      have hd : decide (k < n) = false := decide_eq_false (by omega)
      clear hkn
      go_wp2_with fail
      go_quiet (fail)
      clear hd
    all_goals
      obtain ⟨a2, hs1, hs2, hr1, hr2⟩ := cutRow (HROW.out) HN.out hk HSL.out
      have HR1 := Lib.hid hr1
      have HR2 := Lib.hid hr2
      clear hr1 hr2
      obtain ⟨Z, hZ⟩ : ∃ Z, Z = q + nq := ⟨_, rfl⟩
      have hmade := World.ownsRow_made (w := w1.drewN Z) (base := w.heap.size) (e := 106) (size := 3) #[] 0 (by have := HB1.out.size; simp; omega) (by unfold maxLen; omega) rfl
      have hb2 : Below w.heap.size w ((w1.drewN Z).alloc (.cells #[] 106)) := (below_drewN HB1.out Z).alloc (by have := HB1.out.size; simp; omega) _
      have e2 := (hb2.cell (p := ⟨r, 0, none⟩) HRL.out).trans HC0.out
      have HR1' := Lib.hid (HR1.out.later hb2)
      have HM0 := Lib.hid hmade
      have HB2 := Lib.hid hb2
      rw [hZ] at e2 HR1' HM0 HB2
      clear hmade hb2 hZ
      have ROOM : k ≤ 1000000000000 := by omega
      go_wp2_with (at_builtin; go_must (refine wpList_append_srcN rfl _ _ 94 rfl w.heap.size 106 i0 z0' 3 48 Try.underlying94 HI.out HI0.out HI1.out HI2.out HI3.out (by omega) (.slice (some ⟨w1.heap.size, 0, none⟩) 0 0) 0 [] rfl HM0.out _ k (refCells (R.take k)) rfl HR1'.out (by unfold maxLen; omega) (by omega) (by exact HB2.out.size) ?_); intro v3 w3 hr3 hg3 hat3)
      simp only [Nat.zero_add, List.nil_append] at hr3
      obtain ⟨a3, c3, rfl⟩ : ∃ a3 c3, v3 = .slice a3 k c3 := by
        rcases hr3.2 with ⟨rfl, h0⟩ | ⟨g, cap, cur, rfl, _⟩
        · exact ⟨none, 0, by rw [h0]⟩
        · exact ⟨_, cap, rfl⟩
      have hown3 : ∀ b, (Value.slice a3 k c3).ownBlock = some b → w1.heap.size ≤ b := fun b hb => by
        rcases hat3 with h1 | h1
        · have h2 := hb.symm.trans h1
          simp [Value.ownBlock] at h2
          omega
        · have h2 := hb.symm.trans h1
          simp at h2
          omega
      have hb3 : Below w.heap.size w w3 := HB2.out.grown hg3 HB2.out.size (fun b hb => by simp [Value.ownBlock] at hb; subst hb; exact HB1.out.size)
      have hg3' : ∀ o, w3.cell? ⟨B, o, none⟩ = w1.cell? ⟨B, o, none⟩ := fun o => by
        have hBl : B < w1.heap.size := heap_lt HN1.out
        have e1 := World.cell?_of_block (a := ⟨B, o, none⟩) (hg3.block B (by simp; omega) (by simp [Value.ownBlock]; omega))
        rw [e1, World.cell?_of_block (a := ⟨B, o, none⟩) (heap_alloc_old (w1.drewN _) _ (show B < (w1.drewN _).heap.size from hBl))]
        simp
      have q0 := (hb3.cell (p := ⟨r, 0, none⟩) HRL.out).trans HC0.out
      rw [← HV.out] at q0 hs2
      have q1 := (hg3' 0).trans s0
      have q2 := (hg3' 1).trans s1
      have q3 := (hg3' 2).trans s2
      have HR3 := Lib.hid hr3
      have HL3 := Lib.hid (show w1.heap.size ≤ w3.heap.size from by have := hg3.size; simp at this; omega)
      have HB3 := Lib.hid hb3
      have HO3 := Lib.hid hown3
      clear hr3 hb3 hown3 hg3 hat3 hg3' e2 k0 s0 s1 s2 hs1 HM0 HR1'
      have hk0 : (0 : Int) ≤ (k : Int) := by omega
      have hkn' : (k : Int) ≤ (n : Int) := by omega
      have HNE := Lib.hid (show ∀ b, (Value.slice a3 k c3).ownBlock = some b → some b ≠ some B from fun b hb e => by have h1 := HO3.out b hb; have h2 := heap_lt HN1.out; injection e with e; omega)
      have HBL := Lib.hid (show B < w3.heap.size from World.block_lt_of_cell? w3 _ q1)
      have HRL3 := Lib.hid (show r < w3.heap.size from World.block_lt_of_cell? w3 _ q0)
      have z3 := (HB3.out.frozen (p := ⟨r, 0, none⟩) HRL.out).trans HZ0.out
      have HRH := Lib.hid (show r < w1.heap.size from Nat.lt_of_lt_of_le HRL.out HB1.out.size)
      have HBH := Lib.hid (heap_lt HN1.out)
      have qa : (w3.alloc (.cells #[.string s, .slice va m vc, .int .i64 syn] 106)).cell? ⟨r, 0, none⟩ = some V := ((Far.alloc0 w3 (Nat.le_refl _) _).cell HRL3.out).trans q0
      go_region_law
        (first
          | ((refine step_append_srcN (by rfl) _ _ 94 (by rfl) w.heap.size 106 i0 z0' 3 48 Try.underlying94 HI.out HI0.out HI1.out HI2.out HI3.out (by omega) (.slice a3 k c3) k (refCells (R.take k)) (by rfl) (by first | exact (HR3.out.alloc _).drew | exact HR3.out.alloc _) (.slice (some ⟨w3.heap.size, 0, none⟩) 1 1) 1 [.string s, .slice va m vc, .int .i64 syn] (by rfl) (SrcN.of_block (cs := #[.string s, .slice va m vc, .int .i64 syn]) (heap_alloc_new w3 _) rfl (by simp [Value.oneCell']) 1) (by unfold maxLen; omega) (by omega) (by have := HB3.out.size; simp; omega) ?_; intro a4 c4 w4 hr4 hg4 hat4; have hf4 := (Far.alloc w3 HL3.out _).trans (Far.grown (by have := HL3.out; simp; omega) hg4 HO3.out); have HF4 := Lib.hid hf4; have r4 := (hf4.cell (p := ⟨r, 0, none⟩) HRH.out).trans q0; have hb4 := (HB3.out.alloc HB3.out.size _).drew.grown hg4 (by have := HB3.out.size; simp; omega) (fun b hb => Nat.le_trans HB1.out.size (HO3.out b hb)); have HB4 := Lib.hid hb4; have HR4 := Lib.hid hr4; have HO4 := Lib.hid (show ∀ b, (Value.slice a4 (k + 1) c4).ownBlock = some b → w1.heap.size ≤ b from fun b hb => by rcases hat4 b hb with h1 | h1; exact HO3.out b h1; (have := HL3.out; simp at h1; omega)); clear hr4 hg4 hat4 hf4 hb4))
          | ((refine step_append_srcN (by rfl) _ _ 94 (by rfl) w.heap.size 106 i0 z0' 3 48 Try.underlying94 HI.out HI0.out HI1.out HI2.out HI3.out (by omega) (.slice _ (k + 1) _) (k + 1) (refCells (R.take k) ++ [.string s, .slice va m vc, .int .i64 syn]) (by rfl) HR4.out (.slice a2 (n - k) (cap - k)) (n - k) (refCells (R.drop k)) (by rfl) (HR2.out.later HB4.out) (by unfold maxLen; omega) (by omega) (by exact HB4.out.size) ?_; intro a5 c5 w5 hr5 hg5 hat5; have hf5 := HF4.out.trans (Far.grown (by have := HF4.out.1; have := HL3.out; omega) hg5 HO4.out); have hb5 := HB4.out.grown hg5 HB4.out.size (fun b hb => Nat.le_trans HB1.out.size (HO4.out b hb)); have HB5 := Lib.hid hb5; have HR5 := Lib.hid hr5; have r5 := (hf5.cell (p := ⟨r, 0, none⟩) HRH.out).trans q0; have z5 := (hf5.frozen (p := ⟨r, 0, none⟩) HRH.out).trans z3; clear hr5 hg5 hat5 hf5 hb5)))
      all_goals
        clear r4 r5 z5 z3 q0 q1 q2 q3 qa
        go_wp2_with fail
        go_ret
        have hf5 := HF.out
        rw [HM.out] at hf5
        exact put_end HH.out hf5 HN.out hk HPL.out rfl HB5.out HR5.out
end Go.Proofs.Ytjkgcpbgacdgaaa
