/- The log opened on a disk of no files. No condition but that. -/
import Derived.Test.YtjkgcpbgacdgaaaBH
namespace Go.Proofs.Ytjkgcpbgacdgaaa
open Go.RowKit
set_option maxRecDepth 100000 in
theorem openNew (W w : World) (S : Nat → Prop) (d m : Nat) (room : Int) (h : DiskAt w S d m [] room (-1) false) (hlow : ∀ k, S k → W.heap.size ≤ k ∧ k < w.heap.size) (hb : Below W.heap.size W w) :
    Calls Try.prog 17 #[.pointer (some ⟨d, 0, none⟩)] w fun e w' => ∃ S' T l, e = .returned (.tuple #[.pointer (some ⟨l, 0, none⟩), .int .i64 0]) ∧ Wal W w' S' T d m [] room (-1) false l 0 (.slice none 0 0) [] 0 false := by
  have HH := Lib.hid h
  have HLO := Lib.hid hlow
  have HB := Lib.hid hb
  have hbx := (Below.refl w.heap.size w).alloc (Nat.le_refl _) (logO d 0 (.slice none 0 0) 0 false)
  have hl1 : (w.alloc (logO d 0 (.slice none 0 0) 0 false)).heap[w.heap.size]? = some (logO d 0 (.slice none 0 0) 0 false) := heap_alloc_new w _
  have HD1 := Lib.hid (h.later hbx)
  have HB1 := Lib.hid (hb.trans (hbx.mono hb.size))
  have HL1 := Lib.hid hl1
  have e1 : chE [] (-1) false nNew = 6 := by decide
  have e2 : (getE [] false nWal).2 = 6 := by decide
  clear h hlow hb hbx hl1
  go_enter Try.func17, Try.ntmps17
  go_wp2_with fail
  refine (down28 w S d m [] room _ _ HH.out).mono ?_
  rintro e w1 ⟨rfl, hw⟩
  obtain rfl := hw.symm
  have e3 : remL [] (-1) false nNew = [] := by unfold remL; rw [e1]; rfl
  have e4 : chF [] (-1) false nNew = -1 := by decide
  have e5 : chD [] (-1) false nNew = false := by decide
  have hrm := remove _ S d m [] room (-1) false nNew (by decide) HD1.out (by decide) (by decide)
  rw [e1, e3, e4, e5] at hrm
  have HRM := Lib.hid hrm
  have E2 := Lib.hid e2
  clear hrm e1 e2 e3 e4 e5
  go_wp2_with fail
  refine HRM.out.mono ?_
  rintro e w2 ⟨rfl, ht2, hs2, hd2⟩
  have hl2 := (ht2.block _ (blk_lt HL1.out) (fun e => by have := (HLO.out _ e).2; omega)).trans HL1.out
  have HL2 := Lib.hid hl2
  have HD2 := Lib.hid hd2
  have HB2 := Lib.hid (HB1.out.trans (ht2.below HB1.out.size (fun k hk => (HLO.out k hk).1)))
  have HS2 := Lib.hid (show w.heap.size + 1 = w2.heap.size by rw [hs2]; simp)
  have hrd := read w2 S d m [] room (-1) false nWal (by decide) hd2 (fun e he => by cases he)
  rw [E2.out] at hrd
  have HRD := Lib.hid hrd
  clear hl2 hd2 ht2 hs2 hrd
  go_wp2_with fail
  refine HRD.out.mono ?_
  rintro e w3 ⟨v, rfl, hr3, hb3⟩
  obtain ⟨ra, rc, rfl⟩ := row_form hr3
  have HB3 := Lib.hid hb3
  clear hr3 hb3
  go_wp2_with fail
  go_ret2
  refine ⟨S, fun k => k = w.heap.size, w.heap.size, rfl, HD2.out.later HB3.out, ⟨(HB3.out.block _ (blk_lt HL2.out)).trans HL2.out, World.ownsRow_nil _ _ _ _, (fun x hx => nomatch hx), rfl, fun g hg => ?_, (fun x hx => nomatch hx)⟩, fun k hk e => ?_, fun k hk => ?_, HB2.out.trans (HB3.out.mono HB2.out.size)⟩
  · rcases hg with hg | ⟨x, hx, _⟩
    · cases hg
    · cases hx
  · have := (HLO.out k hk).2; omega
  · have h1 := HB3.out.size
    have h2 := HS2.out
    have h3 := HB.out.size
    rcases hk with hk | hk
    · have := HLO.out k hk; omega
    · omega
end Go.Proofs.Ytjkgcpbgacdgaaa
