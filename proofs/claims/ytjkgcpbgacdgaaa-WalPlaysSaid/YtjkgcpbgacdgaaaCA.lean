/- A run of the law: the disk, the log, the document's log and what it may be besides, in one heap. No condition. -/
import Derived.Test.YtjkgcpbgacdgaaaBW
import Derived.Deep.RegionHeld3
namespace Go.Proofs.Ytjkgcpbgacdgaaa
open Go.RowKit
def runO (d : Nat) (lv : Value) (p : Nat) (qv : Value) : Obj := .cells #[.pointer (some ⟨d, 0, none⟩), lv, .pointer (some ⟨p, 0, none⟩), qv] 66 (0, 0)
theorem run_cells {w : World} {r d p : Nat} {lv qv : Value} (h : w.heap[r]? = some (runO d lv p qv)) : w.cell? ⟨r, 0, none⟩ = some (.pointer (some ⟨d, 0, none⟩)) ∧ w.cell? ⟨r, 1, none⟩ = some lv ∧ w.cell? ⟨r, 2, none⟩ = some (.pointer (some ⟨p, 0, none⟩)) ∧ w.cell? ⟨r, 3, none⟩ = some qv ∧ ∀ i, w.frozen? ⟨r, i, none⟩ = false := by
  unfold runO at h
  exact ⟨by simp [World.cell?, h], by simp [World.cell?, h], by simp [World.cell?, h], by simp [World.cell?, h], fun i => by simp [World.frozen?, h]⟩
/-- The disk of a run; U: the blocks of the document's logs. -/
structure RunD (W w : World) (S U : Nat → Prop) (r d m p : Nat) (lv qv : Value) (L : List Ent) (room fuse : Int) (down : Bool) : Prop where
  blk : w.heap[r]? = some (runO d lv p qv)
  disk : DiskAt w S d m L room fuse down
  sep : ∀ k, S k → ¬ U k ∧ k ≠ r
  rU : ¬ U r
  low : ∀ k, S k ∨ U k ∨ k = r → W.heap.size ≤ k ∧ k < w.heap.size
  below : Below W.heap.size W w
/-- The log of a run; T: its blocks. -/
structure LogIn (W w : World) (S U T : Nat → Prop) (r l d : Nat) (first : Int) (v : Value) (X : List (Value × List Value)) (z : Int) (over : Bool) : Prop where
  log : LogAt w T l d first v X z over
  sep : ∀ k, T k → ¬ S k ∧ ¬ U k ∧ k ≠ r ∧ W.heap.size ≤ k ∧ k < w.heap.size
section
variable {W w w' : World} {S U T S' U' T' : Nat → Prop} {r d m p l : Nat} {lv qv : Value} {L L' : List Ent} {room fuse fuse' : Int} {down down' : Bool} {first first' : Int} {v v' : Value} {X X' : List (Value × List Value)} {z z' : Int} {over over' : Bool}
theorem RunD.later (h : RunD W w S U r d m p lv qv L room fuse down) (hb : Below w.heap.size w w') : RunD W w' S U r d m p lv qv L room fuse down :=
  ⟨(hb.block r (blk_lt h.blk)).trans h.blk, h.disk.later hb, h.sep, h.rU, fun k hk => ⟨(h.low k hk).1, Nat.lt_of_lt_of_le (h.low k hk).2 hb.size⟩, h.below.trans (hb.mono h.below.size)⟩
theorem LogIn.later (h : LogIn W w S U T r l d first v X z over) (hb : Below w.heap.size w w') : LogIn W w' S U T r l d first v X z over :=
  ⟨h.log.later hb, fun k hk => ⟨(h.sep k hk).1, (h.sep k hk).2.1, (h.sep k hk).2.2.1, (h.sep k hk).2.2.2.1, Nat.lt_of_lt_of_le (h.sep k hk).2.2.2.2 hb.size⟩⟩
/-- More blocks for the document's logs, all new. -/
theorem RunD.more (h : RunD W w S U r d m p lv qv L room fuse down) (hb : Below w.heap.size w w') (hU : ∀ k, U' k → U k ∨ (w.heap.size ≤ k ∧ k < w'.heap.size)) : RunD W w' S U' r d m p lv qv L room fuse down := by
  have h1 := h.later hb
  refine ⟨h1.blk, h1.disk, fun k hk => ⟨fun e => ?_, (h.sep k hk).2⟩, fun e => ?_, fun k hk => ?_, h1.below⟩
  · rcases hU k e with e | e
    · exact (h.sep k hk).1 e
    · have := (h.low k (.inl hk)).2; omega
  · rcases hU r e with e | e
    · exact h.rU e
    · have := (h.low r (.inr (.inr rfl))).2; omega
  · rcases hk with hk | hk | hk
    · exact h1.low k (.inl hk)
    · rcases hU k hk with e | e
      · exact h1.low k (.inr (.inl e))
      · have := h.below.size; exact ⟨by omega, e.2⟩
    · exact h1.low k (.inr (.inr hk))
theorem LogIn.more (h : LogIn W w S U T r l d first v X z over) (hb : Below w.heap.size w w') (hU : ∀ k, U' k → U k ∨ (w.heap.size ≤ k ∧ k < w'.heap.size)) : LogIn W w' S U' T r l d first v X z over := by
  have h1 := h.later hb
  refine ⟨h1.log, fun k hk => ⟨(h1.sep k hk).1, fun e => ?_, (h1.sep k hk).2.2⟩⟩
  rcases hU k e with e | e
  · exact (h.sep k hk).2.1 e
  · have := (h.sep k hk).2.2.2.2; omega
theorem RunD.wal (h : RunD W w S U r d m p lv qv L room fuse down) (hl : LogIn W w S U T r l d first v X z over) : Wal (fun k => S k ∨ T k) w w S T d m L room fuse down l first v X z over :=
  ⟨h.disk, hl.log, fun k hS hT => (hl.sep k hT).1 hS, fun k hk => ⟨.inl hk, by
    rcases hk with hk | hk
    · exact (h.low k (.inl hk)).2
    · exact (hl.sep k hk).2.2.2.2⟩, Turns.refl _ _⟩
theorem RunD.after (h : RunD W w S U r d m p lv qv L room fuse down) (hl : LogIn W w S U T r l d first v X z over) (hW : Wal (fun k => S k ∨ T k) w w' S' T' d m L' room fuse' down' l first' v' X' z' over') : RunD W w' S' U r d m p lv qv L' room fuse' down' ∧ LogIn W w' S' U T' r l d first' v' X' z' over' := by
  have hs := hW.below.size
  have hWs := h.below.size
  have new : ∀ k, S' k ∨ T' k → ¬ U k ∧ k ≠ r ∧ W.heap.size ≤ k ∧ k < w'.heap.size := fun k hk => by
    obtain ⟨h1, h2⟩ := hW.low k hk
    rcases h1 with (h1 | h1) | h1
    · exact ⟨(h.sep k h1).1, (h.sep k h1).2, (h.low k (.inl h1)).1, h2⟩
    · exact ⟨(hl.sep k h1).2.1, (hl.sep k h1).2.2.1, (hl.sep k h1).2.2.2.1, h2⟩
    · refine ⟨fun e => ?_, fun e => ?_, by omega, h2⟩
      · have := (h.low k (.inr (.inl e))).2; omega
      · have := (h.low k (.inr (.inr e))).2; omega
  have notr : ¬ (S r ∨ T r) := fun e => by
    rcases e with e | e
    · exact (h.sep r e).2 rfl
    · exact (hl.sep r e).2.2.1 rfl
  refine ⟨⟨(hW.below.block r (blk_lt h.blk) notr).trans h.blk, hW.disk, fun k hk => ⟨(new k (.inl hk)).1, (new k (.inl hk)).2.1⟩, h.rU, fun k hk => ?_, h.below.trans (hW.below.below hWs fun k hk => ?_)⟩, ⟨hW.log, fun k hk => ⟨fun e => hW.apart k e hk, (new k (.inr hk)).1, (new k (.inr hk)).2.1, (new k (.inr hk)).2.2⟩⟩⟩
  · rcases hk with hk | hk | hk
    · exact (new k (.inl hk)).2.2
    · have := h.low k (.inr (.inl hk)); omega
    · have := h.low k (.inr (.inr hk)); omega
  · rcases hk with hk | hk
    · exact (h.low k (.inl hk)).1
    · exact (hl.sep k hk).2.2.2.1
theorem DocAt.keep {w0 : World} {df : Int} {dv : Value} {DX : List (Value × List Value)} {o : Bool} {q : Nat} (hd : DocAt w U q df dv DX o) (h : RunD W w S U r d m p lv qv L room fuse down) (hT : ∀ k, T k → ¬ U k) (ht : Turns (fun k => S k ∨ T k) w w0) : DocAt w0 U q df dv DX o :=
  hd.same ht.size (fun k hk hl => ht.block k hl fun e => by
    rcases e with e | e
    · exact (h.sep k e).1 hk
    · exact hT k e hk) fun _ h => h
end
def sz (Y : List (List UInt8)) : Nat := (Y.map List.length).sum
theorem sz_snoc (Y : List (List UInt8)) (c : List UInt8) : sz (Y ++ [c]) = sz Y + c.length := by simp [sz]
theorem sz_drop : ∀ (Y : List (List UInt8)) (k : Nat), sz (Y.drop k) ≤ sz Y
  | [], k => by simp
  | x :: Y, 0 => by simp
  | x :: Y, k + 1 => by
    have := sz_drop Y k
    simp only [List.drop_succ_cons, sz, List.map_cons, List.sum_cons] at *; omega
theorem FL_len (F : Nat) (Y : List (List UInt8)) : (FL F Y).length = 12 + sz Y + 4 * Y.length := by
  have h := contL_cost F (Y.map Lib.byteCells)
  have h2 : (FL F Y).length = 12 + cost (Y.map Lib.byteCells) := h
  rw [h2]
  have : ∀ Y : List (List UInt8), cost (Y.map Lib.byteCells) = sz Y + 4 * Y.length := by
    intro Y
    induction Y with
    | nil => rfl
    | cons x Y ih =>
      simp only [cost, sz, List.map_cons, List.sum_cons, List.length_cons, Lib.byteCells_length] at *
      omega
  rw [this]; omega
/-- The sizes of a log: K entries ever, B bytes ever. -/
def Bd (K B F : Nat) (Y : List (List UInt8)) : Prop := F + Y.length ≤ K ∧ sz Y ≤ B ∧ ∀ b ∈ Y, 1 ≤ b.length ∧ b.length ≤ 1048576
theorem Bd.snoc {K B F : Nat} {Y : List (List UInt8)} (h : Bd K B F Y) {c : List UInt8} (h1 : 1 ≤ c.length) (h2 : c.length ≤ 1048576) : Bd (K + 1) (B + c.length) F (Y ++ [c]) := by
  refine ⟨by rw [List.length_append, List.length_singleton]; have := h.1; omega, by rw [sz_snoc]; have := h.2.1; omega, fun b hb => ?_⟩
  rcases List.mem_append.1 hb with hb | hb
  · exact h.2.2 b hb
  · rw [List.mem_singleton.1 hb]; exact ⟨h1, h2⟩
theorem Bd.drop {K B F : Nat} {Y : List (List UInt8)} (h : Bd K B F Y) (k : Nat) (hk : k ≤ Y.length) : Bd K B (F + k) (Y.drop k) :=
  ⟨by rw [List.length_drop]; have := h.1; omega, Nat.le_trans (sz_drop Y k) h.2.1, fun b hb => h.2.2 b (List.mem_of_mem_drop hb)⟩
theorem Bd.mono {K B K' B' F : Nat} {Y : List (List UInt8)} (h : Bd K B F Y) (hK : K ≤ K') (hB : B ≤ B') : Bd K' B' F Y := ⟨Nat.le_trans h.1 hK, Nat.le_trans h.2.1 hB, h.2.2⟩
theorem Bd.fl {K B F : Nat} {Y : List (List UInt8)} (h : Bd K B F Y) (hK : K ≤ 1000) (hB : B ≤ 1000000000) : (FL F Y).length ≤ 2000000000 ∧ Y.length ≤ 1000 ∧ F ≤ 1000 := by
  have h1 := h.1
  have h2 := h.2.1
  rw [FL_len]; omega
/-- A run, and what its log may be besides, if the last call was lost. -/
def RunOk (W w : World) (r : Nat) (room fuse : Int) (K B F : Nat) (Y : List (List UInt8)) (mb : Option (Nat × List (List UInt8))) : Prop :=
  ∃ S U T d m p l qv L v X dv DX, ∃ z : Nat, RunD W w S U r d m p (.pointer (some ⟨l, 0, none⟩)) qv L room fuse mb.isSome ∧ LogIn W w S U T r l d F v X z mb.isSome ∧ X.map Prod.snd = Y.map Lib.byteCells ∧ DocAt w U p F dv DX mb.isSome ∧ DX.map Prod.snd = Y.map Lib.byteCells ∧ FuseOk fuse ∧ Bd K B F Y ∧ z ≤ 100000000000 ∧
    ((mb = none ∧ qv = .pointer none ∧ Clean L F Y z) ∨ ∃ MF MY q qd QX, mb = some (MF, MY) ∧ qv = .pointer (some ⟨q, 0, none⟩) ∧ DocAt w U q MF qd QX false ∧ QX.map Prod.snd = MY.map Lib.byteCells ∧ Bd K B MF MY ∧ Torn L F Y MF MY)
theorem lens_clean {L : List Ent} {F z : Nat} {Y : List (List UInt8)} (h : Clean L F Y z) : lens L = z ∧ L.length ≤ 1 := by
  rcases h with ⟨rfl, _, _, rfl⟩ | ⟨e, rfl, _, hb, _, hz⟩
  · exact ⟨rfl, by simp⟩
  · exact ⟨by simp [lens, hb, hz], by simp⟩
theorem lens_torn {L : List Ent} {F MF : Nat} {Y MY : List (List UInt8)} (h : Torn L F Y MF MY) (hz : (FL F Y).length ≤ 2000000000) : lens L ≤ 1000000000000 ∧ L.length ≤ 2 := by
  rcases h with ⟨_, _, h3⟩ | ⟨e, t, hn, hb, hs, hs1, ht, hL⟩
  · rcases h3 with rfl | ⟨n, hn, hg, rfl⟩
    · exact ⟨by simp [lens], by simp⟩
    · have := hg.2.1
      exact ⟨by simp [lens]; omega, by simp⟩
  · have ht3 : t.length ≤ 1048580 := by
      rcases ht with rfl | ⟨b, j, rfl, _, _, _, hb2⟩
      · simp
      · have hfl : (frameL (Lib.byteCells b)).length = 4 + b.length := by simp [frameL, numL_len, Lib.byteCells_length]
        rw [List.length_take]; omega
    have he : e.bs.length ≤ 2001048580 := by rw [hb, List.length_append]; omega
    rcases hL with rfl | ⟨n, hn2, hg, rfl⟩
    · exact ⟨by simp [lens]; omega, by simp⟩
    · have := hg.2.1
      exact ⟨by simp [lens]; omega, by simp⟩
end Go.Proofs.Ytjkgcpbgacdgaaa
/- Stores into a run's own cells; what each outcome of a call leaves. No condition. -/
namespace Go.Proofs.Ytjkgcpbgacdgaaa
open Go.RowKit
section
variable {W w w' : World} {S U T S' U' T' : Nat → Prop} {r d m p l : Nat} {lv qv : Value} {L L' : List Ent} {room fuse fuse' : Int} {down down' : Bool} {first first' : Int} {v v' : Value} {X X' : List (Value × List Value)} {z z' : Int} {over over' : Bool}
theorem set_other {w : World} {r i k : Nat} {u : Value} (h : k ≠ r) : (w.setCell ⟨r, i, none⟩ u).heap[k]? = w.heap[k]? := Below.heap_setCell _ _ _ _ h
theorem RunD.setR (h : RunD W w S U r d m p lv qv L room fuse down) {i : Nat} {u : Value} {p' : Nat} {lv' qv' : Value} (hb : (w.setCell ⟨r, i, none⟩ u).heap[r]? = some (runO d lv' p' qv')) : RunD W (w.setCell ⟨r, i, none⟩ u) S U r d m p' lv' qv' L room fuse down := by
  have hsz : (w.setCell ⟨r, i, none⟩ u).heap.size = w.heap.size := by simp
  exact ⟨hb, h.disk.same fun k hk => set_other (h.sep k hk).2, h.sep, h.rU, fun k hk => by rw [hsz]; exact h.low k hk, h.below.setCell (h.low r (.inr (.inr rfl))).1 u⟩
theorem RunD.set1 (h : RunD W w S U r d m p lv qv L room fuse down) (lv' : Value) : RunD W (w.setCell ⟨r, 1, none⟩ lv') S U r d m p lv' qv L room fuse down :=
  h.setR (heap_setCell_same w r 1 _ 66 _ h.blk)
theorem RunD.set2 (h : RunD W w S U r d m p lv qv L room fuse down) (p' : Nat) : RunD W (w.setCell ⟨r, 2, none⟩ (.pointer (some ⟨p', 0, none⟩))) S U r d m p' lv qv L room fuse down :=
  h.setR (heap_setCell_same w r 2 _ 66 _ h.blk)
theorem RunD.set3 (h : RunD W w S U r d m p lv qv L room fuse down) (qv' : Value) : RunD W (w.setCell ⟨r, 3, none⟩ qv') S U r d m p lv qv' L room fuse down :=
  h.setR (heap_setCell_same w r 3 _ 66 _ h.blk)
theorem LogIn.setR (h : LogIn W w S U T r l d first v X z over) (i : Nat) (u : Value) : LogIn W (w.setCell ⟨r, i, none⟩ u) S U T r l d first v X z over := by
  have hsz : (w.setCell ⟨r, i, none⟩ u).heap.size = w.heap.size := by simp
  exact ⟨h.log.same ((set_other (h.sep l h.log.here).2.2.1).trans h.log.blk) (by rw [hsz]; exact Nat.le_refl _) fun k hk _ _ => set_other (h.sep k hk).2.2.1, fun k hk => by rw [hsz]; exact h.sep k hk⟩
theorem DocAt.setR {q : Nat} {df : Int} {dv : Value} {DX : List (Value × List Value)} {o : Bool} (hd : DocAt w U q df dv DX o) (hr : ¬ U r) (i : Nat) (u : Value) : DocAt (w.setCell ⟨r, i, none⟩ u) U q df dv DX o :=
  hd.same (by simp) (fun k hk _ => set_other fun e => hr (e ▸ hk)) fun _ h => h
/-- Another log of the document, over the same list. -/
theorem DocAt.again {q : Nat} {df : Int} {dv : Value} {DX : List (Value × List Value)} {o : Bool} (hd : DocAt w U q df dv DX o) (o' : Bool) (w0 : World) (hw : Below w.heap.size w w0) : DocAt (w0.alloc (docO df dv o')) (With U w (w0.alloc (docO df dv o'))) w0.heap.size df dv DX o' := by
  have hb : Below w.heap.size w (w0.alloc (docO df dv o')) := hw.alloc hw.size _
  have h1 := hd.later hb
  exact ⟨heap_alloc_new w0 _, h1.list, h1.one, h1.cap, .inr ⟨hw.size, by simp⟩, fun g hg => ⟨.inl (h1.mine g hg).1, (h1.mine g hg).2⟩⟩
theorem With.old {U : Nat → Prop} {w w' : World} : ∀ k, With U w w' k → U k ∨ (w.heap.size ≤ k ∧ k < w'.heap.size) := fun _ h => h
theorem DocAt.wide {q : Nat} {df : Int} {dv : Value} {DX : List (Value × List Value)} {o : Bool} (hd : DocAt w U q df dv DX o) (hb : Below w.heap.size w w') (hU : ∀ k, U k → U' k) : DocAt w' U' q df dv DX o :=
  hd.same hb.size (fun k _ hk => hb.block k hk) hU
end
end Go.Proofs.Ytjkgcpbgacdgaaa
/- One call of the run: Append or Trim. Conditions: the sizes. -/
namespace Go.Proofs.Ytjkgcpbgacdgaaa
open Go.RowKit
def opO (kind n : Int) (a : Option Addr) (ln cap : Nat) : Obj := .cells #[.int .i64 kind, .int .i64 n, .slice a ln cap] 70 (0, 0)
theorem op_cells {w : World} {B : Nat} {kind n : Int} {a : Option Addr} {ln cap : Nat} (h : w.heap[B]? = some (opO kind n a ln cap)) : w.cell? ⟨B, 0, none⟩ = some (.int .i64 kind) ∧ w.cell? ⟨B, 1, none⟩ = some (.int .i64 n) ∧ w.cell? ⟨B, 2, none⟩ = some (.slice a ln cap) := by
  unfold opO at h
  exact ⟨by simp [World.cell?, h], by simp [World.cell?, h], by simp [World.cell?, h]⟩
/-- A run in the middle of a call, with the call's own box B. -/
structure Mid9 (W w : World) (r B d m p l : Nat) (kind n : Int) (a : Option Addr) (ln cap : Nat) (S U T : Nat → Prop) (qv : Value) (L : List Ent) (room fuse : Int) (down : Bool) (first : Int) (v : Value) (X : List (Value × List Value)) (z : Int) (over : Bool) : Prop where
  run : RunD W w S U r d m p (.pointer (some ⟨l, 0, none⟩)) qv L room fuse down
  log : LogIn W w S U T r l d first v X z over
  box : w.heap[B]? = some (opO kind n a ln cap)
  boxOut : ¬ S B ∧ ¬ U B ∧ ¬ T B ∧ B ≠ r ∧ W.heap.size ≤ B
section
variable {W w w' : World} {S U T S' U' T' : Nat → Prop} {r B d m p l ln cap : Nat} {kind n : Int} {a : Option Addr} {qv : Value} {L L' : List Ent} {room fuse fuse' : Int} {down down' : Bool} {first first' : Int} {v v' : Value} {X X' : List (Value × List Value)} {z z' : Int} {over over' : Bool}
theorem Mid9.later (h : Mid9 W w r B d m p l kind n a ln cap S U T qv L room fuse down first v X z over) (hb : Below w.heap.size w w') : Mid9 W w' r B d m p l kind n a ln cap S U T qv L room fuse down first v X z over :=
  ⟨h.run.later hb, h.log.later hb, (hb.block B (blk_lt h.box)).trans h.box, h.boxOut⟩
theorem Mid9.after (h : Mid9 W w r B d m p l kind n a ln cap S U T qv L room fuse down first v X z over) (hW : Wal (fun k => S k ∨ T k) w w' S' T' d m L' room fuse' down' l first' v' X' z' over') : Mid9 W w' r B d m p l kind n a ln cap S' U T' qv L' room fuse' down' first' v' X' z' over' := by
  obtain ⟨h1, h2⟩ := h.run.after h.log hW
  have hBl := blk_lt h.box
  have hB : ¬ (S B ∨ T B) := fun e => by
    rcases e with e | e
    · exact h.boxOut.1 e
    · exact h.boxOut.2.2.1 e
  refine ⟨h1, h2, (hW.below.block B hBl hB).trans h.box, fun e => ?_, h.boxOut.2.1, fun e => ?_, h.boxOut.2.2.2⟩
  · rcases (hW.low B (.inl e)).1 with h3 | h3
    · exact hB h3
    · omega
  · rcases (hW.low B (.inr e)).1 with h3 | h3
    · exact hB h3
    · omega
theorem Mid9.cells (h : Mid9 W w r B d m p l kind n a ln cap S U T qv L room fuse down first v X z over) : w.cell? ⟨r, 1, none⟩ = some (.pointer (some ⟨l, 0, none⟩)) ∧ w.cell? ⟨r, 2, none⟩ = some (.pointer (some ⟨p, 0, none⟩)) ∧ w.cell? ⟨B, 2, none⟩ = some (.slice a ln cap) :=
  ⟨(run_cells h.run.blk).2.1, (run_cells h.run.blk).2.2.1, (op_cells h.box).2.2⟩
theorem Mid9.doc (h : Mid9 W w r B d m p l kind n a ln cap S U T qv L room fuse down first v X z over) {q : Nat} {df : Int} {dv : Value} {DX : List (Value × List Value)} {o : Bool} (hd : DocAt w U q df dv DX o) {w0 : World} (ht : Turns (fun k => S k ∨ T k) w w0) : DocAt w0 U q df dv DX o :=
  hd.keep h.run (fun k hk => (h.log.sep k hk).2.1) ht
theorem Mid9.more (h : Mid9 W w r B d m p l kind n a ln cap S U T qv L room fuse down first v X z over) (hb : Below w.heap.size w w') (hU : ∀ k, U' k → U k ∨ (w.heap.size ≤ k ∧ k < w'.heap.size)) : Mid9 W w' r B d m p l kind n a ln cap S U' T qv L room fuse down first v X z over := by
  have h1 := h.later hb
  refine ⟨h.run.more hb hU, h.log.more hb hU, h1.box, h.boxOut.1, fun e => ?_, h.boxOut.2.2⟩
  rcases hU B e with e | e
  · exact h.boxOut.2.1 e
  · have := blk_lt h.box; omega
end
/-- The document's log is another block, over the same list. -/
theorem boxed {W w : World} {S U T : Nat → Prop} {r d m p l : Nat} {lv qv : Value} {L : List Ent} {room fuse : Int} {down : Bool} {first df : Int} {v dv : Value} {X DX : List (Value × List Value)} {z : Int} {over o : Bool} (h : RunD W w S U r d m p lv qv L room fuse down) (hl : LogIn W w S U T r l d first v X z over) (hd : DocAt w U p df dv DX o) (o' : Bool) :
    ∃ U', RunD W ((w.drew.alloc (docO df dv o')).setCell ⟨r, 2, none⟩ (.pointer (some ⟨w.heap.size, 0, none⟩))) S U' r d m w.heap.size lv qv L room fuse down ∧ LogIn W ((w.drew.alloc (docO df dv o')).setCell ⟨r, 2, none⟩ (.pointer (some ⟨w.heap.size, 0, none⟩))) S U' T r l d first v X z over ∧ DocAt ((w.drew.alloc (docO df dv o')).setCell ⟨r, 2, none⟩ (.pointer (some ⟨w.heap.size, 0, none⟩))) U' w.heap.size df dv DX o' ∧
      ∀ q qf qd QX qo, DocAt w U q qf qd QX qo → DocAt ((w.drew.alloc (docO df dv o')).setCell ⟨r, 2, none⟩ (.pointer (some ⟨w.heap.size, 0, none⟩))) U' q qf qd QX qo := by
  have hb0 : Below w.heap.size w w.drew := (Below.refl w.heap.size w).drew
  have hb : Below w.heap.size w (w.drew.alloc (docO df dv o')) := hb0.alloc (Nat.le_refl _) _
  have h1 := h.more hb (U' := With U w (w.drew.alloc (docO df dv o'))) With.old
  have h2 := hl.more hb (U' := With U w (w.drew.alloc (docO df dv o'))) With.old
  have h3 := hd.again o' w.drew hb0
  exact ⟨With U w (w.drew.alloc (docO df dv o')), h1.set2 w.heap.size, h2.setR 2 _, h3.setR h1.rU 2 _, fun q qf qd QX qo hq => (hq.wide hb fun k hk => .inl hk).setR h1.rU 2 _⟩
/-- What the disk's bounds are in a run. -/
theorem RunOk.sizes {L : List Ent} {K B F z : Nat} {Y : List (List UInt8)} {mb : Option (Nat × List (List UInt8))} {q : Prop} (hb : Bd K B F Y) (hK : K ≤ 1000) (hB : B ≤ 1000000000) (h : (mb = none ∧ q ∧ Clean L F Y z) ∨ ∃ MF MY, mb = some (MF, MY) ∧ Torn L F Y MF MY) : lens L ≤ 1000000000000 ∧ L.length ≤ 2 := by
  have h1 := hb.fl hK hB
  rcases h with ⟨_, _, h⟩ | ⟨MF, MY, _, h⟩
  · have h2 := lens_clean h
    rcases h with ⟨_, _, _, h3⟩ | ⟨_, _, _, _, _, h3⟩ <;> omega
  · exact lens_torn h h1.1
end Go.Proofs.Ytjkgcpbgacdgaaa
