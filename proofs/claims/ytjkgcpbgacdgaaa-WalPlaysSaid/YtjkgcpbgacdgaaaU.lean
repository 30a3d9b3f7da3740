/- A file is taken from a disk. No condition but the bounds of a name and a fuse. -/
import Derived.Test.YtjkgcpbgacdgaaaT
namespace Go.Proofs.Ytjkgcpbgacdgaaa
open Go.RowKit Go.Sort
def dropE (L : List Ent) (s : ByteArray) : List Ent := L.filter fun e => !(e.name.data.toList == s.data.toList)
theorem del_drop (L : List Ent) (s : ByteArray) : (DataW.map (L.map ent)).del (key s) = .map ((dropE L s).map ent) := by
  simp only [DataW.del, dropE, List.filter_map]
  rfl
theorem ownsMap_tight {H : Type} {w : World} {P : Program} {k : TypeId} {R : Value → Option (DataW H × List MemPlace)} {b n : Nat} {xs : List (Lit × DataW H)} (h : w.ownsMap P k R b n (.map xs)) : w.ownsMap P k R b xs.length (.map xs) := by
  obtain ⟨es, c, h1, h2, h3, h4⟩ := h
  refine ⟨es, c, h1, h2, ?_, h4⟩
  injection h4 with h4
  rw [h4, length_sorted]
  simp
theorem drop_mem {L : List Ent} {s : ByteArray} {e : Ent} (h : e ∈ dropE L s) : e ∈ L := (List.mem_filter.1 h).1
theorem DiskAt.drop {w w' : World} {S : Nat → Prop} {d m : Nat} {L : List Ent} {room fuse : Int} {down : Bool} {n : Nat} (h : DiskAt w S d m L room fuse down) (s : ByteArray)
    (hm : w'.ownsMap Try.prog 9 ptrE m n ((DataW.map (L.map ent)).del (key s))) (hk : ∀ k, k < w.heap.size → k ≠ m → w'.heap[k]? = w.heap[k]?) : DiskAt w' S d m (dropE L s) room fuse down := by
  have lt : ∀ {k : Nat} {o : Obj}, w.heap[k]? = some o → k < w.heap.size := fun {k o} hh => by
    rcases Nat.lt_or_ge k w.heap.size with h | h
    · exact h
    · rw [Array.getElem?_eq_none h] at hh; cases hh
  obtain ⟨es, c, hmb⟩ := h.mapBlk
  have hb := h.blk
  refine ⟨?_, ?_, ?_, h.apart.sublist List.filter_sublist, h.here, fun e he => h.mine e (drop_mem he)⟩
  · rw [hk d (lt hb) ?_, hb]
    rintro rfl; rw [hb] at hmb; cases hmb
  · rw [del_drop] at hm
    have := ownsMap_tight hm
    rw [List.length_map] at this
    exact this
  · intro e he
    obtain ⟨f1, f2⟩ := h.file e (drop_mem he)
    refine ⟨?_, f2.same fun g hg => ?_⟩
    · rw [hk _ (lt f1) ?_, f1]
      intro e1; rw [e1, hmb] at f1; cases f1
    · obtain ⟨cur, fz, hc⟩ := f2.cells hg
      refine hk _ (lt hc) ?_
      rintro rfl; rw [hmb] at hc; cases hc
theorem turned_size {w w' : World} {b : Nat} (h : w.mapTurned w' b) : w'.heap.size = w.heap.size := by
  obtain ⟨es, c, es', c', h1, rfl⟩ := h
  simp [ChangeMaps.setBlock]
def remL (L : List Ent) (fuse : Int) (down : Bool) (s : ByteArray) : List Ent := if chE L fuse down s = 0 then dropE L s else L
set_option maxRecDepth 100000 in
theorem remove (w : World) (S : Nat → Prop) (d m : Nat) (L : List Ent) (room fuse : Int) (down : Bool) (s : ByteArray) (hs : s.size ≤ maxLen) (h : DiskAt w S d m L room fuse down) (hf : -1 ≤ fuse) (hf2 : fuse < 2 ^ 63) :
    Calls Try.prog 34 #[.pointer (some ⟨d, 0, none⟩), .string s] w fun e w' => e = .returned (.int .i64 (chE L fuse down s)) ∧ Turns S w w' ∧ w'.heap.size = w.heap.size ∧ DiskAt w' S d m (remL L fuse down s) room (chF L fuse down s) (chD L fuse down s) := by
  have HH := Lib.hid h
  have HS := Lib.hid hs
  clear h hs
  go_enter Try.func34, Try.ntmps34
  go_wp2_with fail
  refine (change w S d m L room fuse down s HS.out HH.out hf hf2).mono ?_
  rintro e w1 ⟨rfl, ho, hd⟩
  have HO := Lib.hid ho
  have HD := Lib.hid hd
  have hb := hd.blk
  have c0 : w1.cell? ⟨d, 0, none⟩ = some (.map (some m)) := by simp [World.cell?, hb]
  clear ho hd hb
  by_cases hz : chE L fuse down s = 0
  · have hz0 : (chE L fuse down s == 0) = true := by simp [hz]
    have HZ := Lib.hid hz
    clear hz
    go_wp2_with (at_delete; go_must (refine wpList_delete_own _ rfl _ _ 76 9 rfl 80 (Maps.string_keyed Try.underlying9) Try.underlying76 ptrE m L.length _ rfl HD.out.map _ (key s) rfl (WideMaps.keyOf_string_mk Try.underlying9 HS.out) ?_); intro w4 hown4 hturn4)
    go_ret
    have hg := hturn4.grown
    have hmS := HH.out.here.2
    have ht : Turns S w1 w4 := Turns.of_grown hg (fun k hk => by cases hk; exact hmS)
    refine ⟨by rw [HZ.out]; rfl, (HO.out.turns HH.out.here.1).trans ht (fun _ h => .inl h), by rw [turned_size hturn4, HO.out.2.2.2.1], ?_⟩
    unfold remL
    rw [if_pos HZ.out]
    exact HD.out.drop s hown4 (fun k hk hkm => hg.block k hk (fun e => hkm (by cases e; rfl)))
  · have hz0 : (chE L fuse down s == 0) = false := by simp [hz]
    have HZ := Lib.hid hz
    clear hz
    go_wp2_with fail
    go_ret
    refine ⟨rfl, HO.out.turns HH.out.here.1, HO.out.2.2.2.1, ?_⟩
    unfold remL
    rw [if_neg HZ.out]
    exact HD.out
end Go.Proofs.Ytjkgcpbgacdgaaa
