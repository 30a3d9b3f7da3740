/- A disk's room and fuse are set; a file is read. Condition of the last: the file's bytes are bytes. -/
import Derived.Test.YtjkgcpbgacdgaaaI
import Derived.Test.YtjkgcpbgacdgaaaShelf
import Derived.OneCell
namespace Go.Proofs.Ytjkgcpbgacdgaaa
open Go.RowKit
theorem setRoom (w : World) (S : Nat → Prop) (d m : Nat) (L : List Ent) (room fuse : Int) (down : Bool) (n : Int) (h : DiskAt w S d m L room fuse down) :
    Calls Try.prog 32 #[.pointer (some ⟨d, 0, none⟩), .int .i64 n] w fun e w' => e = .returned (.tuple #[]) ∧ OnlyD d w w' ∧ DiskAt w' S d m L (max n 0) fuse down := by
  have hb := h.blk
  have c1 : w.cell? ⟨d, 1, none⟩ = some (.int .i64 room) := by simp [World.cell?, hb]
  have z1 : w.frozen? ⟨d, 1, none⟩ = false := by simp [World.frozen?, hb]
  have HH := Lib.hid h
  clear h hb
  go_enter Try.func32, Try.ntmps32
  go_wp2
  go_end0
  refine ⟨rfl, onlyD_set w d 1 _, HH.out.set ?_ (onlyD_set w d 1 (.int .i64 (max n 0))).2.2.2.2⟩
  rw [heap_setCell_same _ _ _ _ _ _ HH.out.blk]; rfl
theorem setFuse (w : World) (S : Nat → Prop) (d m : Nat) (L : List Ent) (room fuse : Int) (down : Bool) (n : Int) (h : DiskAt w S d m L room fuse down) :
    Calls Try.prog 26 #[.pointer (some ⟨d, 0, none⟩), .int .i64 n] w fun e w' => e = .returned (.tuple #[]) ∧ OnlyD d w w' ∧ DiskAt w' S d m L room (max n (-1)) down := by
  have hb := h.blk
  have c1 : w.cell? ⟨d, 2, none⟩ = some (.int .i64 fuse) := by simp [World.cell?, hb]
  have z1 : w.frozen? ⟨d, 2, none⟩ = false := by simp [World.frozen?, hb]
  have HH := Lib.hid h
  clear h hb
  go_enter Try.func26, Try.ntmps26
  go_wp2
  go_end0
  refine ⟨rfl, onlyD_set w d 2 _, HH.out.set ?_ (onlyD_set w d 2 (.int .i64 (max n (-1)))).2.2.2.2⟩
  rw [heap_setCell_same _ _ _ _ _ _ HH.out.blk]; rfl
theorem Loose.cellAt {w : World} {e : TypeId} {n cap : Nat} {ad : Addr} {xs : List Value} (h : Loose w e (.slice (some ad) n cap) xs) {i : Nat} (hi : i < xs.length) : w.cell? (ad.add i) = xs[i]? := by
  rcases h with ⟨hv, _⟩ | ⟨g, cap', cur, hv, hg, h1, h2, h3, h4⟩
  · cases hv
  · injection hv with h5 _ _
    injection h5 with h5
    subst h5
    have e1 : (Addr.add ⟨g, 0, none⟩ i) = ⟨g, i, none⟩ := by unfold Addr.add; split <;> simp_all
    rw [e1]
    have h6 : xs[i]? = cur[i]? := by
      rw [← h4, List.getElem?_take_of_lt hi]
      simp
    rw [h6]
    simp [World.cell?, hg]
theorem Loose.none_ {w : World} {e : TypeId} {n cap : Nat} {xs : List Value} (h : Loose w e (.slice none n cap) xs) : xs = [] := by
  rcases h with ⟨_, h⟩ | ⟨g, cap', cur, hv, _⟩
  · exact h
  · cases hv
/-- All files hold bytes. -/
def Bytes (L : List Ent) : Prop := ∀ e ∈ L, ∃ l : List UInt8, e.bs = Lib.byteCells l ∧ l.length ≤ 140737488355328
def bytesOf : Option Ent → List Value
  | some e => e.bs
  | none => []
theorem read (w : World) (S : Nat → Prop) (d m : Nat) (L : List Ent) (room fuse : Int) (down : Bool) (s : ByteArray) (hs : s.size ≤ maxLen) (h : DiskAt w S d m L room fuse down) (hB : Bytes L) :
    Calls Try.prog 24 #[.pointer (some ⟨d, 0, none⟩), .string s] w fun e w' => ∃ v, e = .returned (.tuple #[v, .int .i64 (getE L down s).2]) ∧ w'.ownsRow w.heap.size 5 1 v (bytesOf (getE L down s).1).length (bytesOf (getE L down s).1) ∧ Below w.heap.size w w' := by
  have HH := Lib.hid h
  have HB := Lib.hid hB
  clear h hB
  go_enter Try.func24, Try.ntmps24
  go_wp2_with fail
  refine (get w S d m L room fuse down s hs HH.out).mono ?_
  rintro e w1 ⟨rfl, hw1⟩
  obtain rfl := hw1.symm
  clear hw1
  cases down with
  | true =>
    have hg : getE L true s = (none, 8) := rfl
    rw [hg]
    clear hg
    simp only [ptrOf]
    go_wp2_with fail
    go_ret2
    exact ⟨_, rfl, World.ownsRow_nil _ _ _ _, Below.refl _ _⟩
  | false =>
    cases hk : look L s with
    | none =>
      have HG := Lib.hid (show getE L false s = (none, 6) by simp [getE, hk])
      rw [HG.out]
      clear hk
      simp only [ptrOf]
      go_wp2_with fail
      go_ret2
      rw [HG.out]
      exact ⟨_, rfl, World.ownsRow_nil _ _ _ _, Below.refl _ _⟩
    | some e =>
      have HG := Lib.hid (show getE L false s = (some e, 0) by simp [getE, hk])
      rw [HG.out]
      simp only [ptrOf]
      obtain ⟨hf1, hf2⟩ := HH.out.file e (look_mem hk)
      obtain ⟨l, hl, hll⟩ := HB.out e (look_mem hk)
      have c0 : w.cell? ⟨e.f, 0, none⟩ = some e.v := by simp [World.cell?, hf1]
      obtain ⟨a, cap, hv⟩ := hf2.form
      rw [hv] at c0
      have HF2 := Lib.hid hf2
      have HL := Lib.hid hl
      have HV := Lib.hid hv
      clear hk hf1 hf2 hl hv
      cases a with
      | none =>
        have he : Hid (e.bs = []) := Lib.hid (by
          have h := HF2.out
          rw [HV.out] at h
          exact h.none_)
        go_wp2_with fail
        refine (Try.bytes_Clone_nil _ _ w).mono ?_
        rintro e' w2 ⟨rfl, rfl⟩
        go_wp2_with fail
        go_ret2
        rw [HG.out]
        refine ⟨_, rfl, ?_, Below.refl _ _⟩
        show World.ownsRow _ _ _ _ _ e.bs.length e.bs
        rw [he.out]
        exact World.ownsRow_nil _ _ _ _
      | some ad =>
        go_wp2_with fail
        refine (Try.bytes_Clone_at ad e.bs.length cap (l.map fun c => (c.toNat : Int)) w (by rw [HL.out]; simp [Lib.byteCells]) (by rw [HL.out]; simpa [Lib.byteCells] using hll) ?_).mono ?_
        · intro i hi
          have h := HF2.out
          rw [HV.out] at h
          rw [h.cellAt hi, HL.out]
          have hi' : i < l.length := by rw [HL.out] at hi; simpa [Lib.byteCells] using hi
          simp [Lib.byteCells, List.getD, hi']
        · rintro e' w2 ⟨v', rfl, hown, _, hb⟩
          have HOW := Lib.hid hown
          have HBE := Lib.hid hb
          clear hown hb
          go_wp2_with fail
          go_ret2
          rw [HG.out]
          refine ⟨_, rfl, ?_, HBE.out⟩
          have := HOW.out
          rw [List.map_map] at this
          show World.ownsRow _ _ _ _ _ e.bs.length e.bs
          have e2 : List.map (Value.int .u8 ∘ fun c : UInt8 => (c.toNat : Int)) l = e.bs := by rw [HL.out]; rfl
          rw [e2] at this
          exact this
end Go.Proofs.Ytjkgcpbgacdgaaa
