/- A disk in the heap: its block, its map of files, each file's block and row; what it is after a step. No condition. -/
import Derived.Test.YtjkgcpbgacdgaaaA
import Derived.Maps.RangeWalk
namespace Go.Proofs.Ytjkgcpbgacdgaaa
open Go.RowKit
structure Ent where
  name : ByteArray
  f : Nat
  v : Value
  bs : List Value
  syn : Int
/-- A pointer to a block's head, as a datum. -/
def ptrE : Value → Option (DataW Unit × List MemPlace)
  | .pointer (some ⟨b, 0, none⟩) => some (.lit (.int .u64 b), [])
  | .pointer none => some (.nil, [])
  | _ => none
def key (s : ByteArray) : Lit := .string s.data.toList
def ent (e : Ent) : Lit × DataW Unit := (key e.name, .lit (.int .u64 e.f))
theorem ptrE_nil {v : Value} {ps : List MemPlace} (h : ptrE v = some (.nil, ps)) : v = .pointer none := by
  unfold ptrE at h
  split at h
  · simp at h
  · rfl
  · cases h
theorem ptrE_lit {v : Value} {b : Nat} {ps : List MemPlace} (h : ptrE v = some (.lit (.int .u64 b), ps)) : v = .pointer (some ⟨b, 0, none⟩) := by
  unfold ptrE at h
  split at h
  · rename_i b'
    simp at h
    have h : b' = b := by omega
    subst h
    rfl
  · simp at h
  · cases h
structure DiskAt (w : World) (S : Nat → Prop) (d m : Nat) (L : List Ent) (room fuse : Int) (down : Bool) : Prop where
  blk : w.heap[d]? = some (.cells #[.map (some m), .int .i64 room, .int .i64 fuse, .bool down] 78 (0, 0))
  map : w.ownsMap Try.prog 9 ptrE m L.length (.map (L.map ent))
  file : ∀ e ∈ L, w.heap[e.f]? = some (.cells #[e.v, .int .i64 e.syn] 82 (0, 0)) ∧ Loose w 5 e.v e.bs
  apart : L.Pairwise fun a b => a.f ≠ b.f ∧ ∀ g, a.v.ownBlock = some g → b.v.ownBlock ≠ some g
  here : S d ∧ S m
  mine : ∀ e ∈ L, S e.f ∧ ∀ g, e.v.ownBlock = some g → S g
theorem ownsMap_same {w w' : World} {P : Program} {k : TypeId} {R : Value → Option (DataW Unit × List MemPlace)} {b n : Nat} {D : DataW Unit} (h : w.ownsMap P k R b n D) (hk : w'.heap[b]? = w.heap[b]?) : w'.ownsMap P k R b n D := by
  obtain ⟨es, c, h1, h2⟩ := h
  exact ⟨es, c, hk.trans h1, h2⟩
section
variable {w w' : World} {S S' : Nat → Prop} {d m : Nat} {L : List Ent} {room fuse : Int} {down : Bool}
theorem DiskAt.same (h : DiskAt w S d m L room fuse down) (hk : ∀ k, S k → w'.heap[k]? = w.heap[k]?) : DiskAt w' S d m L room fuse down :=
  ⟨(hk d h.here.1).trans h.blk, ownsMap_same h.map (hk m h.here.2), fun e he => ⟨(hk _ (h.mine e he).1).trans (h.file e he).1, (h.file e he).2.same (fun g hg => hk g ((h.mine e he).2 g hg))⟩, h.apart, h.here, h.mine⟩
theorem DiskAt.kept (h : DiskAt w S d m L room fuse down) {T : Nat → Prop} (ht : Turns T w w') (hd : ∀ k, S k → k < w.heap.size ∧ ¬ T k) : DiskAt w' S d m L room fuse down :=
  h.same fun k hk => ht.block k (hd k hk).1 (hd k hk).2
theorem DiskAt.more (h : DiskAt w S d m L room fuse down) (hs : ∀ k, S k → S' k) : DiskAt w S' d m L room fuse down :=
  ⟨h.blk, h.map, h.file, h.apart, ⟨hs _ h.here.1, hs _ h.here.2⟩, fun e he => ⟨hs _ (h.mine e he).1, fun g hg => hs _ ((h.mine e he).2 g hg)⟩⟩
theorem DiskAt.mapBlk (h : DiskAt w S d m L room fuse down) : ∃ es c, w.heap[m]? = some (.map es c) := by
  obtain ⟨es, c, h1, _⟩ := h.map
  exact ⟨es, c, h1⟩
/-- The disk's own block is written. -/
theorem DiskAt.set (h : DiskAt w S d m L room fuse down) {room' fuse' : Int} {down' : Bool} (hd : w'.heap[d]? = some (.cells #[.map (some m), .int .i64 room', .int .i64 fuse', .bool down'] 78 (0, 0))) (hk : ∀ k, k ≠ d → w'.heap[k]? = w.heap[k]?) :
    DiskAt w' S d m L room' fuse' down' := by
  obtain ⟨es, c, hm⟩ := h.mapBlk
  have hb := h.blk
  have hmd : m ≠ d := by rintro rfl; rw [hb] at hm; cases hm
  refine ⟨hd, ownsMap_same h.map (hk m hmd), fun e he => ⟨?_, ?_⟩, h.apart, h.here, h.mine⟩
  · have h1 := (h.file e he).1
    have : e.f ≠ d := by intro e1; rw [e1, hb] at h1; simp at h1
    rw [hk _ this, h1]
  · refine (h.file e he).2.same fun g hg => hk g ?_
    rintro rfl
    obtain ⟨cur, fz, hc⟩ := (h.file e he).2.cells hg
    rw [hb] at hc; simp at hc
/-- A file is turned in its place. -/
theorem DiskAt.turn {L1 L2 : List Ent} {e : Ent} (h : DiskAt w S d m (L1 ++ e :: L2) room fuse down) (v : Value) (bs : List Value) (syn : Int)
    (hf : w'.heap[e.f]? = some (.cells #[v, .int .i64 syn] 82 (0, 0))) (hl : Loose w' 5 v bs) (hS : ∀ k, S k → S' k) (hSv : ∀ g, v.ownBlock = some g → S' g)
    (hv : ∀ g, v.ownBlock = some g → e.v.ownBlock = some g ∨ w.heap.size ≤ g)
    (hk : ∀ k, k < w.heap.size → k ≠ e.f → e.v.ownBlock ≠ some k → w'.heap[k]? = w.heap[k]?) :
    DiskAt w' S' d m (L1 ++ ⟨e.name, e.f, v, bs, syn⟩ :: L2) room fuse down := by
  obtain ⟨es, c, hm⟩ := h.mapBlk
  have hb := h.blk
  have he := h.file e (by simp)
  have lt : ∀ {k : Nat} {o : Obj}, w.heap[k]? = some o → k < w.heap.size := fun {k o} hh => by
    rcases Nat.lt_or_ge k w.heap.size with h | h
    · exact h
    · rw [Array.getElem?_eq_none h] at hh; cases hh
  have hap := h.apart
  rw [List.pairwise_append] at hap
  obtain ⟨ha1, ha2, ha3⟩ := hap
  rw [List.pairwise_cons] at ha2
  obtain ⟨ha2, ha4⟩ := ha2
  -- another entry
  have oth : ∀ x ∈ L1 ++ L2, x.f ≠ e.f ∧ ∀ g, x.v.ownBlock = some g → e.v.ownBlock ≠ some g := by
    intro x hx
    rcases List.mem_append.1 hx with hx | hx
    · exact ha3 x hx e (by simp)
    · obtain ⟨h1, h2⟩ := ha2 x hx
      exact ⟨fun h => h1 h.symm, fun g hg hg' => h2 g hg' hg⟩
  have mem : ∀ x ∈ L1 ++ L2, x ∈ L1 ++ e :: L2 := by intro x hx; simp at hx ⊢; rcases hx with hx | hx <;> simp [hx]
  have othF : ∀ x ∈ L1 ++ L2, w'.heap[x.f]? = some (.cells #[x.v, .int .i64 x.syn] 82 (0, 0)) ∧ Loose w' 5 x.v x.bs := by
    intro x hx
    obtain ⟨f1, f2⟩ := h.file x (mem x hx)
    refine ⟨?_, f2.same fun g hg => ?_⟩
    · rw [hk _ (lt f1) (oth x hx).1 ?_, f1]
      intro hg
      obtain ⟨cur, fz, hc⟩ := he.2.cells hg
      rw [f1] at hc; simp at hc
    · obtain ⟨cur, fz, hc⟩ := f2.cells hg
      refine hk _ (lt hc) ?_ ((oth x hx).2 g hg)
      rintro rfl
      rw [he.1] at hc; simp at hc
  have newB : ∀ x ∈ L1 ++ L2, ∀ g, x.v.ownBlock = some g → v.ownBlock ≠ some g := by
    intro x hx g hg hv'
    rcases hv g hv' with h1 | h1
    · exact (oth x hx).2 g hg h1
    · have := (h.file x (mem x hx)).2.lt hg
      omega
  refine ⟨?_, ?_, ?_, ?_, ⟨hS _ h.here.1, hS _ h.here.2⟩, ?_⟩
  · rw [hk d (lt hb) ?_ ?_, hb]
    · rintro rfl; rw [hb] at he; simp at he
    · intro hg
      obtain ⟨cur, fz, hc⟩ := he.2.cells hg
      rw [hb] at hc; simp at hc
  · have e1 : (L1 ++ e :: L2).length = (L1 ++ (⟨e.name, e.f, v, bs, syn⟩ : Ent) :: L2).length := by simp
    have e2 : (L1 ++ e :: L2).map ent = (L1 ++ (⟨e.name, e.f, v, bs, syn⟩ : Ent) :: L2).map ent := by simp [ent]
    rw [← e1, ← e2]
    refine ownsMap_same h.map (hk m (lt hm) ?_ ?_)
    · rintro rfl; rw [he.1] at hm; cases hm
    · intro hg
      obtain ⟨cur, fz, hc⟩ := he.2.cells hg
      rw [hm] at hc; cases hc
  · intro x hx
    rcases List.mem_append.1 hx with hx | hx
    · exact othF x (List.mem_append.2 (.inl hx))
    · rcases List.mem_cons.1 hx with rfl | hx
      · exact ⟨hf, hl⟩
      · exact othF x (List.mem_append.2 (.inr hx))
  · rw [List.pairwise_append]
    refine ⟨ha1, ?_, ?_⟩
    · rw [List.pairwise_cons]
      refine ⟨fun x hx => ⟨(ha2 x hx).1, fun g hg hg' => newB x (List.mem_append.2 (.inr hx)) g hg' hg⟩, ha4⟩
    · intro x hx y hy
      rcases List.mem_cons.1 hy with rfl | hy
      · exact ⟨(ha3 x hx e (by simp)).1, newB x (List.mem_append.2 (.inl hx))⟩
      · exact ha3 x hx y (by simp [hy])
  · intro x hx
    rcases List.mem_append.1 hx with hx | hx
    · have := h.mine x (by simp [hx]); exact ⟨hS _ this.1, fun g hg => hS _ (this.2 g hg)⟩
    · rcases List.mem_cons.1 hx with rfl | hx
      · exact ⟨hS _ (h.mine e (by simp)).1, hSv⟩
      · have := h.mine x (by simp [hx]); exact ⟨hS _ this.1, fun g hg => hS _ (this.2 g hg)⟩
end
end Go.Proofs.Ytjkgcpbgacdgaaa
