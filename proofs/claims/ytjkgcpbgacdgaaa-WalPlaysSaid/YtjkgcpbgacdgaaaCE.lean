/- A run that is opened anew: frames. No condition. -/
import Derived.Test.YtjkgcpbgacdgaaaCA
namespace Go.Proofs.Ytjkgcpbgacdgaaa
open Go.RowKit
section
variable {W w w' : World} {S U T S' U' T' : Nat → Prop} {r d m p l : Nat} {lv qv : Value} {L L' : List Ent} {room fuse fuse' : Int} {down down' : Bool} {first first' : Int} {v v' : Value} {X X' : List (Value × List Value)} {z z' : Int} {over over' : Bool}
theorem RunD.turn (h : RunD W w S U r d m p lv qv L room fuse down) (ht : Turns S w w') (hd : DiskAt w' S d m L' room fuse' down') : RunD W w' S U r d m p lv qv L' room fuse' down' := by
  have hs := ht.size
  refine ⟨(ht.block r (blk_lt h.blk) (fun e => (h.sep r e).2 rfl)).trans h.blk, hd, h.sep, h.rU, fun k hk => ⟨(h.low k hk).1, Nat.lt_of_lt_of_le (h.low k hk).2 hs⟩, h.below.trans (ht.below h.below.size fun k hk => (h.low k (.inl hk)).1)⟩
theorem RunD.opened (h : RunD W w S U r d m p lv qv L room fuse down) (hW : Wal S w w' S T' d m L' room fuse' down' l first v X z over) : RunD W w' S U r d m p lv qv L' room fuse' down' ∧ LogIn W w' S U T' r l d first v X z over := by
  refine ⟨h.turn hW.below hW.disk, ⟨hW.log, fun k hk => ?_⟩⟩
  have hs := h.below.size
  obtain ⟨h1, h2⟩ := hW.low k (.inr hk)
  have h3 : w.heap.size ≤ k := by
    rcases h1 with h1 | h1
    · exact absurd hk (hW.apart k h1)
    · exact h1
  refine ⟨fun e => hW.apart k e hk, fun e => ?_, fun e => ?_, by omega, h2⟩
  · have := (h.low k (.inr (.inl e))).2; omega
  · have := (h.low k (.inr (.inr e))).2; omega
theorem DocAt.turn {q : Nat} {df : Int} {dv : Value} {DX : List (Value × List Value)} {o : Bool} (hd : DocAt w U q df dv DX o) (h : RunD W w S U r d m p lv qv L room fuse down) (ht : Turns S w w') : DocAt w' U q df dv DX o :=
  hd.same ht.size (fun k hk hl => ht.block k hl fun e => (h.sep k e).1 hk) fun _ h => h
end
theorem Clean.size {L : List Ent} {F z : Nat} {Y : List (List UInt8)} (h : Clean L F Y z) : z ≤ (FL F Y).length := by
  rcases h with ⟨_, _, _, h⟩ | ⟨_, _, _, _, _, h⟩
  · omega
  · rw [h]; exact Nat.le_refl _
theorem Stuck.len {t : List Value} (h : Stuck t) : t.length ≤ 1048580 := by
  rcases h with h | ⟨n, t', rfl, _, h2, h3⟩
  · omega
  · rw [List.length_append, numL_len]; omega
theorem Good.bytesW {L : List Ent} (h : Good L) : Bytes L := fun e he => by
  obtain ⟨_, ⟨l, hl⟩, h3, _⟩ := h e he
  exact ⟨l, hl, by rw [hl, Lib.byteCells_length] at h3; exact h3⟩
theorem bytes_mono {Y : List (List UInt8)} {K B F : Nat} (h : Bd K B F Y) : ∀ y ∈ Y.map Lib.byteCells, 1 ≤ y.length ∧ y.length ≤ 1048576 := fun y hy => by
  obtain ⟨b, hb, rfl⟩ := List.mem_map.1 hy
  rw [Lib.byteCells_length]
  exact h.2.2 b hb
theorem ch_neg (L : List Ent) (s : ByteArray) : chE L (-1) false s ≠ 8 ∧ chF L (-1) false s = -1 ∧ chD L (-1) false s = false := by
  cases h : look L s with
  | none =>
    obtain ⟨c1, c2, c3⟩ := ch_none h (-1)
    exact ⟨by rw [c1]; decide, c2, c3⟩
  | some e =>
    obtain ⟨c1, c2, c3⟩ := ch_some h (-1)
    exact ⟨by rw [c1]; decide, by rw [c2]; decide, by rw [c3]; decide⟩
theorem cut_neg (L : List Ent) (s : ByteArray) (n : Int) : cutE L (-1) false s n ≠ 8 := by
  unfold cutE
  split
  · decide
  · exact (ch_neg L s).1
theorem ren_neg (L : List Ent) (s t : ByteArray) : renE L (-1) false s t ≠ 8 := by
  unfold renE getE
  cases look L s with
  | none => simp
  | some e =>
    show (if nameB t.data.toList = true then opE (-1) else 1) ≠ 8
    by_cases hb : nameB t.data.toList = true
    · rw [if_pos hb]; decide
    · rw [if_neg hb]; decide
theorem app_neg {L L' : List Ent} {room : Int} {s : ByteArray} {xs : List Value} {j : Nat} {err : Int} (h : AppSays L room (-1) false s xs L' j err) : err ≠ 8 := by
  rcases h with ⟨h1, _⟩ | ⟨_, _, _, _, rfl⟩ | ⟨_, _, h1, _⟩ | ⟨_, _, _, _, rfl, _⟩
  · cases h1
  · decide
  · exact absurd rfl h1
  · split <;> decide
/-- Without a fuse nothing is lost. -/
theorem append_whole {L L' : List Ent} {room first size size' : Int} {X X' : List (List Value)} {b : List Value} {fuse fuse' : Int} {down' over' : Bool} {er : Int} (hf : fuse = -1) (hs : AppendSays L room fuse false first X size false b L' fuse' down' X' size' over' er) : er ≠ 8 := by
  subst hf
  have a1 : apF (-1) false nWal = -1 := by decide
  have a2 : apD (-1) false nWal = false := by decide
  have a3 : apF (-1) false nNew = -1 := by decide
  have a4 : apD (-1) false nNew = false := by decide
  rcases hs with ⟨h1, _⟩ | ⟨_, _, rfl, _⟩ | ⟨_, _, _, _, _, ⟨_, _, L1, j, e1, ha, hc⟩ | ⟨_, _, L1, j, e1, ha, hc⟩⟩
  · cases h1
  · decide
  · rw [a3, a4] at hc
    rcases hc with ⟨_, _, _, _, rfl⟩ | ⟨_, _, _, _, _, rfl⟩ | ⟨_, _, L2, f2, d2, _, rfl, rfl, _, _, _, rfl⟩ | ⟨_, _, _, _, _, rfl⟩
    · split
      · decide
      · exact (ch_neg L1 nNew).1
    · exact (ch_neg L1 nNew).1
    · rw [(ch_neg L1 nNew).2.1, (ch_neg L1 nNew).2.2]
      exact ren_neg _ _ _
    · exact app_neg ha
  · rw [a1, a2] at hc
    rcases hc with ⟨_, _, _, _, _, rfl⟩ | ⟨_, _, _, _, rfl⟩ | ⟨_, _, _, _, _, rfl⟩
    · split
      · decide
      · exact cut_neg _ _ _
    · exact (ch_neg L1 nWal).1
    · exact app_neg ha
/-- What a call of the run leaves. -/
def CallPost (W : World) (r : Nat) (room fuse : Int) (K B : Nat) (mb : Option (Nat × List (List UInt8))) (w' : World) : Prop :=
  ∃ fuse' F' Y' mb', RunOk W w' r room fuse' K B F' Y' mb' ∧ (fuse = -1 → mb = none → mb' = none)
/-- What opening leaves. -/
def OpenedPost (W : World) (r : Nat) (room fuse : Int) (K B F' : Nat) (Y' : List (List UInt8)) (w' : World) : Prop :=
  ∃ fuse', RunOk W w' r room fuse' K B F' Y' none ∧ (fuse = -1 → fuse' = -1)
/-- A run that can be opened: its disk is up, and holds the log that the document has, or the one that it may have. -/
def Ready (W w : World) (r : Nat) (room fuse : Int) (K B F : Nat) (Y : List (List UInt8)) (mb : Option (Nat × List (List UInt8))) (F' : Nat) (Y' : List (List UInt8)) : Prop :=
  ∃ S U d m p lv qv L dv DX dover t, ∃ z : Nat, RunD W w S U r d m p lv qv L room fuse false ∧ (∃ lo, lv = .pointer lo) ∧ DocAt w U p F dv DX dover ∧ DX.map Prod.snd = Y.map Lib.byteCells ∧ FuseOk fuse ∧ Bd K B F Y ∧ Bd K B F' Y' ∧ Openable L F' Y' t z ∧ Good L ∧ (fuse = -1 ∨ (t = [] ∧ Clean L F' Y' z)) ∧
    ((mb = none ∧ qv = .pointer none ∧ F' = F ∧ Y' = Y) ∨ ∃ MF MY q qd QX, mb = some (MF, MY) ∧ qv = .pointer (some ⟨q, 0, none⟩) ∧ DocAt w U q MF qd QX false ∧ QX.map Prod.snd = MY.map Lib.byteCells ∧ Bd K B MF MY ∧ ((F' = F ∧ Y' = Y) ∨ (F' = MF ∧ Y' = MY)))
end Go.Proofs.Ytjkgcpbgacdgaaa
