/- The log and its disk in one heap. No condition. -/
import Derived.Test.YtjkgcpbgacdgaaaBE
namespace Go.Proofs.Ytjkgcpbgacdgaaa
open Go.RowKit
theorem SrcN.same {w w' : World} {size m : Nat} {v : Value} {news : List Value} (h : SrcN w size v m news) (hk : ∀ g, v.ownBlock = some g → w'.heap[g]? = w.heap[g]?) : SrcN w' size v m news := by
  obtain ⟨h0, h | ⟨ad, c', rfl, h1, h2⟩⟩ := h
  · exact ⟨h0, .inl h⟩
  · refine ⟨h0, .inr ⟨ad, c', rfl, fun j u hj => ?_, h2⟩⟩
    have h3 : w'.heap[(ad.add j).block]? = w.heap[(ad.add j).block]? := by rw [add_block]; exact hk _ rfl
    exact (World.cell?_of_block h3).trans (h1 j u hj)
/-- The log: its block, its list, its entries' bytes; T all its blocks. -/
structure LogAt (w : World) (T : Nat → Prop) (l d : Nat) (first : Int) (v : Value) (X : List (Value × List Value)) (size : Int) (over : Bool) : Prop where
  blk : w.heap[l]? = some (logO d first v size over)
  row : w.ownsRow 0 23 1 v X.length (X.map Prod.fst)
  ent : ∀ x ∈ X, SrcN w 1 x.1 x.2.length x.2 ∧ ∀ u ∈ x.2, u.oneCell' = true
  here : T l
  mine : ∀ g, (v.ownBlock = some g ∨ ∃ x ∈ X, x.1.ownBlock = some g) → T g ∧ g ≠ l ∧ g < w.heap.size
  sep : ∀ x ∈ X, ∀ g, x.1.ownBlock = some g → v.ownBlock ≠ some g
theorem LogAt.same {w w' : World} {T : Nat → Prop} {l d : Nat} {first size size' : Int} {v : Value} {X : List (Value × List Value)} {over over' : Bool} (h : LogAt w T l d first v X size over) (hl : w'.heap[l]? = some (logO d first v size' over')) (hs : w.heap.size ≤ w'.heap.size) (hk : ∀ k, T k → k ≠ l → k < w.heap.size → w'.heap[k]? = w.heap[k]?) : LogAt w' T l d first v X size' over' :=
  ⟨hl, row_same h.row fun g hg => hk g (h.mine g (.inl hg)).1 (h.mine g (.inl hg)).2.1 (h.mine g (.inl hg)).2.2, fun x hx => ⟨(h.ent x hx).1.same fun g hg => hk g (h.mine g (.inr ⟨x, hx, hg⟩)).1 (h.mine g (.inr ⟨x, hx, hg⟩)).2.1 (h.mine g (.inr ⟨x, hx, hg⟩)).2.2, (h.ent x hx).2⟩, h.here, fun g hg => ⟨(h.mine g hg).1, (h.mine g hg).2.1, Nat.lt_of_lt_of_le (h.mine g hg).2.2 hs⟩, h.sep⟩
/-- The log and its disk, apart from each other, all in N or new since W; nothing else has turned since W. -/
structure Wal (N : Nat → Prop) (W w : World) (S T : Nat → Prop) (d m : Nat) (L : List Ent) (room fuse : Int) (down : Bool) (l : Nat) (first : Int) (v : Value) (X : List (Value × List Value)) (size : Int) (over : Bool) : Prop where
  disk : DiskAt w S d m L room fuse down
  log : LogAt w T l d first v X size over
  apart : ∀ k, S k → ¬ T k
  low : ∀ k, S k ∨ T k → (N k ∨ W.heap.size ≤ k) ∧ k < w.heap.size
  below : Turns N W w
section
variable {N : Nat → Prop} {W w w' : World} {S T : Nat → Prop} {d m : Nat} {L L' : List Ent} {room fuse fuse' : Int} {down down' : Bool} {l : Nat} {first : Int} {v : Value} {X : List (Value × List Value)} {size size' : Int} {over over' : Bool}
theorem Wal.later (h : Wal N W w S T d m L room fuse down l first v X size over) (hb : Below w.heap.size w w') : Wal N W w' S T d m L room fuse down l first v X size over :=
  ⟨h.disk.later hb, h.log.same ((hb.block l (blk_lt h.log.blk)).trans h.log.blk) hb.size fun k _ _ hk => hb.block k hk, h.apart, fun k hk => ⟨(h.low k hk).1, by have := (h.low k hk).2; have := hb.size; omega⟩, h.below.trans (Turns.of_below (S := N) hb) fun _ hk => .inl hk⟩
/-- The disk has gone on, and the log's own fields with it. -/
theorem Wal.step (h : Wal N W w S T d m L room fuse down l first v X size over) (ht : Turns (SL S l) w w') (hd : DiskAt w' (With S w w') d m L' room fuse' down') (hl : w'.heap[l]? = some (logO d first v size' over')) : Wal N W w' (With S w w') T d m L' room fuse' down' l first v X size' over' := by
  refine ⟨hd, h.log.same hl ht.size fun k hk hne hkl => ht.block k hkl fun e => ?_, fun k hk hT => ?_, fun k hk => ?_, h.below.trans ht (fun k hk => ?_)⟩
  · rcases e with e | e
    · exact h.apart k e hk
    · exact hne e
  · rcases hk with hk | hk
    · exact h.apart k hk hT
    · have := (h.low k (.inr hT)).2; omega
  · have hs := ht.size
    rcases hk with (hk | hk) | hk
    · exact ⟨(h.low k (.inl hk)).1, by have := (h.low k (.inl hk)).2; omega⟩
    · have := h.below.size; exact ⟨.inr (by omega), by omega⟩
    · exact ⟨(h.low k (.inr hk)).1, by have := (h.low k (.inr hk)).2; omega⟩
  · rcases hk with hk | hk
    · exact (h.low k (.inl hk)).1
    · rw [hk]; exact (h.low l (.inr h.log.here)).1
theorem Wal.not (h : Wal N W w S T d m L room fuse down l first v X size over) : ¬ S l := fun e => h.apart l e h.log.here
theorem Wal.lt (h : Wal N W w S T d m L room fuse down l first v X size over) : ∀ k, S k → k < w.heap.size := fun k hk => (h.low k (.inl hk)).2
theorem Wal.one (h : Wal N W w S T d m L room fuse down l first v X size over) : ∀ x ∈ X, ∀ u ∈ x.2, u.oneCell' = true := fun x hx => (h.log.ent x hx).2
/-- The log has another list. -/
theorem Wal.list {w2 : World} {v' : Value} {X' : List (Value × List Value)} {first' : Int} (h : Wal N W w S T d m L room fuse down l first v X size over) (ht : Turns T w w2) (hl : w2.heap[l]? = some (logO d first' v' size over)) (hrow : w2.ownsRow 0 23 1 v' X'.length (X'.map Prod.fst)) (hent : ∀ x ∈ X', SrcN w2 1 x.1 x.2.length x.2 ∧ ∀ u ∈ x.2, u.oneCell' = true)
    (hmine : ∀ g, (v'.ownBlock = some g ∨ ∃ x ∈ X', x.1.ownBlock = some g) → (T g ∨ w.heap.size ≤ g) ∧ g ≠ l ∧ g < w2.heap.size) (hsep : ∀ x ∈ X', ∀ g, x.1.ownBlock = some g → v'.ownBlock ≠ some g) : Wal N W w2 S (With T w w2) d m L room fuse down l first' v' X' size over := by
  refine ⟨h.disk.kept ht fun k hk => ⟨h.lt k hk, h.apart k hk⟩, ⟨hl, hrow, hent, .inl h.log.here, fun g hg => ⟨?_, (hmine g hg).2⟩, hsep⟩, fun k hk hT => ?_, fun k hk => ?_, h.below.trans ht fun k hk => (h.low k (.inr hk)).1⟩
  · rcases (hmine g hg).1 with h1 | h1
    · exact .inl h1
    · exact .inr ⟨h1, (hmine g hg).2.2⟩
  · rcases hT with hT | hT
    · exact h.apart k hk hT
    · have := h.lt k hk; omega
  · have hs := ht.size
    rcases hk with hk | (hk | hk)
    · exact ⟨(h.low k (.inl hk)).1, by have := (h.low k (.inl hk)).2; omega⟩
    · exact ⟨(h.low k (.inr hk)).1, by have := (h.low k (.inr hk)).2; omega⟩
    · have := h.below.size; exact ⟨.inr (by omega), by omega⟩
theorem row_head {w : World} {base n size : Nat} {t : TypeId} {v : Value} {xs : List Value} (h : w.ownsRow base t size v n xs) {g : Nat} (hg : v.ownBlock = some g) : ∃ cur, w.heap[g]? = some (.cells cur t (0, 0)) := by
  rcases h.2 with ⟨rfl, _⟩ | ⟨g', c, cur, rfl, _, h2, _⟩
  · cases hg
  · cases hg; exact ⟨cur, h2⟩
/-- One entry more: a copy of its bytes, appended to the list, and the list laid into the log. -/
theorem Wal.push {w3 w9 : World} {cv v9 : Value} {b : List Value} (h : Wal N W w S T d m L room fuse down l first v X size over) (hb3 : Below w.heap.size w w3) (hr3 : w3.ownsRow w.heap.size 5 1 cv b.length b) (hb1 : ∀ u ∈ b, u.oneCell' = true)
    (hg9 : (w3.alloc (.cells #[cv] 23)).grownBy w9 v.ownBlock) (hr9 : w9.ownsRow 0 23 1 v9 (X.length + 1) (X.map Prod.fst ++ [cv])) (hat : ∀ b, v9.ownBlock = some b → v.ownBlock = some b ∨ b = (w3.alloc (.cells #[cv] 23)).heap.size) (hl9 : w9.heap[l]? = some (logO d first v size over)) :
    Wal N W (w9.setCell ⟨l, 2, none⟩ v9) S (With T w (w9.setCell ⟨l, 2, none⟩ v9)) d m L room fuse down l first v9 (X ++ [(cv, b)]) size over := by
  have hll := blk_lt h.log.blk
  have hs3 := hb3.size
  have hsa : (w3.alloc (.cells #[cv] 23)).heap.size = w3.heap.size + 1 := by simp
  have hs9 := hg9.size
  have hsz : (w9.setCell ⟨l, 2, none⟩ v9).heap.size = w9.heap.size := by simp
  have old : ∀ k, k < w3.heap.size → v.ownBlock ≠ some k → k ≠ l → (w9.setCell ⟨l, 2, none⟩ v9).heap[k]? = w3.heap[k]? := fun k hk hv hl => by
    rw [log_other hl, hg9.block k (by omega) (fun e => hv e.symm), heap_alloc_old w3 _ hk]
  have hvT : ∀ g, v.ownBlock = some g → T g ∧ g ≠ l ∧ g < w.heap.size := fun g hg => h.log.mine g (.inl hg)
  have hcv : ∀ g, cv.ownBlock = some g → w.heap.size ≤ g ∧ g < w3.heap.size := fun g hg => hr3.lt g hg
  have hv9 : ∀ g, v9.ownBlock = some g → g ≠ l ∧ g < w9.heap.size := fun g hg => by
    refine ⟨fun e => ?_, (hr9.lt g hg).2⟩
    obtain ⟨cur, hc⟩ := row_head hr9 hg
    rw [e, hl9] at hc
    unfold logO at hc
    simp at hc
  refine h.list ⟨?_, ?_, ?_, by rw [hsz]; omega, fun k hk hn => ?_⟩ (heap_setCell_same w9 l 2 _ 86 _ hl9) ?_ (fun x hx => ?_) (fun g hg => ?_) (fun x hx g hg => ?_)
  · show w9.os = w.os; exact hg9.os.trans hb3.os
  · show w9.tape = w.tape; exact hg9.tape.trans hb3.tape
  · show w9.output = w.output; exact hg9.output.trans hb3.output
  · rw [old k (by omega) (fun e => hn (hvT k e).1) (fun e => hn (e ▸ h.log.here))]
    exact hb3.block k hk
  · rw [List.length_append, List.map_append]
    exact row_same hr9 fun g hg => log_other (hv9 g hg).1
  · rcases List.mem_append.1 hx with hx | hx
    · refine ⟨(h.log.ent x hx).1.same fun g hg => ?_, (h.log.ent x hx).2⟩
      have h1 := h.log.mine g (.inr ⟨x, hx, hg⟩)
      rw [old g (by omega) (h.log.sep x hx g hg) h1.2.1]
      exact hb3.block g h1.2.2
    · have hx' := List.mem_singleton.1 hx
      subst hx'
      refine ⟨(row_srcN hr3 hb1).same fun g hg => ?_, hb1⟩
      have h1 := hcv g hg
      exact old g h1.2 (fun e => by have := (hvT g e).2.2; omega) (by omega)
  · rcases hg with hg | ⟨x, hx, hg⟩
    · refine ⟨?_, (hv9 g hg).1, by rw [hsz]; exact (hv9 g hg).2⟩
      rcases hat g hg with h1 | h1
      · exact .inl (hvT g h1).1
      · exact .inr (by omega)
    · rcases List.mem_append.1 hx with hx | hx
      · have h1 := h.log.mine g (.inr ⟨x, hx, hg⟩)
        exact ⟨.inl h1.1, h1.2.1, by rw [hsz]; omega⟩
      · have hx' := List.mem_singleton.1 hx
        subst hx'
        have h1 := hcv g hg
        exact ⟨.inr h1.1, by omega, by rw [hsz]; omega⟩
  · intro e
    rcases List.mem_append.1 hx with hx | hx
    · rcases hat g e with h1 | h1
      · exact h.log.sep x hx g hg h1
      · have := (h.log.mine g (.inr ⟨x, hx, hg⟩)).2.2; omega
    · have hx' := List.mem_singleton.1 hx
      subst hx'
      have h1 := hcv g hg
      rcases hat g e with h2 | h2
      · have := (hvT g h2).2.2; omega
      · omega
end
end Go.Proofs.Ytjkgcpbgacdgaaa
