/- One call on both disks: bytes are laid behind a file's. Conditions: what both hold, and what comes, is in its bounds. -/
import Derived.Test.YtjkgcpbgacdgaaaAU
import Derived.Deep.RegionHeld3
import Derived.Outline
namespace Go.Proofs.Ytjkgcpbgacdgaaa
open Go.RowKit Go.Sort
theorem apF_bd {fuse : Int} {down : Bool} {s : ByteArray} (h : -1 ≤ fuse) (h1 : fuse < 2 ^ 63) : -1 ≤ apF fuse down s ∧ apF fuse down s < 2 ^ 63 := by
  unfold apF
  split
  · exact ⟨h, h1⟩
  · exact opF_bd h h1
section
variable {W w : World} {b : Nat} {O : Option Obj} {d m r : Nat} {L : List Ent} {room fuse : Int} {down : Bool} {R : List RFile} {p q : Nat}
set_option maxRecDepth 100000 in
theorem play1 (h : PlaySt W w b O d m r L room fuse down R p q) (n : Int) (nm to : ByteArray) (a : Option Addr) (ln cap : Nat) (l : List UInt8) (hsrc : ∀ S, (∀ x, S x → W.heap.size ≤ x) → SrcAt W S (.slice a ln cap) (Lib.byteCells l)) (hln : l.length = ln) (hnm : nm.size ≤ maxLen) (hp : p + ln ≤ 1000000000) (hq : q ≤ 1000000000) :
    Calls Try.prog 30 #[.pointer (some ⟨d, 0, none⟩), .pointer (some ⟨r, 0, none⟩), .agg #[.int .i64 1, .int .i64 n, .string nm, .string to, .slice a ln cap]] w (PlayPost W d m r (p + ln) (q + 1)) := by
  have h1 := h.box (opB 1 n nm to a ln cap)
  obtain ⟨w1, hw1⟩ : ∃ w1, w.alloc (opB 1 n nm to a ln cap) = w1 := ⟨_, rfl⟩
  obtain ⟨B, hB⟩ : ∃ B, w.heap.size = B := ⟨_, rfl⟩
  rw [hw1, hB] at h1
  have HL := Lib.hid h1.like
  have HC := Lib.hid h1.caps
  have HF := Lib.hid h1.fits
  have HLN := Lib.hid (show R.length ≤ 1000000000000 by have := h1.lenR; omega)
  have HT := Lib.hid h1.two
  have F0 := Lib.hid h1.f0
  have F1 := Lib.hid h1.f1
  have R0 := Lib.hid h1.r0
  have R1 := Lib.hid h1.r1
  have hO := h1.two.stays
  have b0 : w1.cell? ⟨B, 0, none⟩ = some (.int .i64 1) := by simp [World.cell?, hO, opB]
  have b2 : w1.cell? ⟨B, 2, none⟩ = some (.string nm) := by simp [World.cell?, hO, opB]
  have b4 : w1.cell? ⟨B, 4, none⟩ = some (.slice a ln cap) := by simp [World.cell?, hO, opB]
  have HO := Lib.hid (fun (w' : World) (hs : w'.heap[B]? = some (opB 1 n nm to a ln cap)) => (show w'.cell? ⟨B, 2, none⟩ = some (.string nm) ∧ w'.cell? ⟨B, 4, none⟩ = some (.slice a ln cap) from ⟨by simp [World.cell?, hs, opB], by simp [World.cell?, hs, opB]⟩))
  have HO1 := Lib.hid hO
  have HBL := Lib.hid (heap_lt hO)
  have HA := Lib.hid HT.out.apart
  have hs1 : SrcN w1 1 (.slice a ln cap) ln (Lib.byteCells l) := by
    have h5 := ((hsrc (fun x => W.heap.size ≤ x) (fun x hx => hx)).later HT.out.below).src.srcN
    rw [Lib.byteCells_length, hln] at h5
    exact h5
  have HS1 := Lib.hid hs1
  have HSRC := Lib.hid hsrc
  have HLL := Lib.hid hln
  have HP := Lib.hid hp
  have HBY := Lib.hid (show lens L + (Lib.byteCells l).length ≤ 140737488355328 by have := HF.out.2.1; rw [Lib.byteCells_length]; omega)
  have HCT := Lib.hid (show L.length < maxLen by have := HF.out.2.2; unfold maxLen; omega)
  have HCN := Lib.hid (show L.length ≤ 100000000000 by have := HF.out.2.2; omega)
  obtain ⟨i0, hi, hz0, hz1, hz2⟩ := info_parts zero5
  have HI := Lib.hid hi
  have HI0 := Lib.hid hz0
  have HI1 := Lib.hid hz1
  have HI2 := Lib.hid hz2
  clear hi hz0 hz1 hz2 hs1 hsrc hln hp
  unfold opB at hw1
  clear h h1 hO
  go_enter Try.func30, Try.ntmps30
  go_wp2_with fail
  clear b0 hw1 hB
  go_region_held3 (fun w' => w'.cell? ⟨B, 2, none⟩ = some (.string nm) ∧ w'.cell? ⟨B, 4, none⟩ = some (.slice a ln cap)) (first | exact HO.out _ HO2.out | exact HO.out _ HT3.out.stays | exact HO.out _ (((Far.alloc0 w1 (Nat.le_refl _) _).2 B HBL.out).trans HO1.out) | go_keep)
    (first
      | ((refine step_append_srcN (by rfl) _ _ 23 (by rfl) w1.heap.size 5 i0 _ 1 1 Try.underlying23 HI.out HI0.out HI1.out HI2.out (by rfl) (by omega) (.slice (some ⟨w1.heap.size, 0, none⟩) 0 0) 0 [] (by rfl) (by first | exact (World.ownsRow_made (w := w1) (base := w1.heap.size) (e := 5) (size := 1) #[] 0 (Nat.le_refl _) (by unfold maxLen; omega) rfl).drew | exact World.ownsRow_made (w := w1) (base := w1.heap.size) (e := 5) (size := 1) #[] 0 (Nat.le_refl _) (by unfold maxLen; omega) rfl) (.slice a ln cap) ln (Lib.byteCells l) (by rfl) (by first | exact HS1.out.later (((Below.refl _ _).alloc (Nat.le_refl _) _).drew) | exact HS1.out.later ((Below.refl _ _).alloc (Nat.le_refl _) _)) (by have := HP.out; unfold maxLen; omega) (by have := HP.out; omega) (by simp) ?_; intro a2 c2 w2 hr2 hg2 hat2; simp only [Nat.zero_add, List.nil_append] at hr2 hat2; have hb2 := (((Below.refl w1.heap.size w1).alloc (Nat.le_refl _) _).drew).grown hg2 (by simp) (fun b hb => by simp [Value.ownBlock] at hb; omega); have HB2 := Lib.hid hb2; have HO2 := Lib.hid ((hb2.block B HBL.out).trans HO1.out); have HLO := Lib.hid (Loose.of_row hr2); have HNW := Lib.hid (show ∀ b, (Value.slice a2 ln c2).ownBlock = some b → w1.heap.size ≤ b from fun b hb => by rcases hat2 b hb with h1 | h1; (simp [Value.ownBlock] at h1; omega); (simp at h1; omega)); clear hr2 hg2 hat2 hb2))
      | (go_at_call 13; refine (twoD_append HT.out HB2.out nm _ l hnm F0.out F1.out R0.out R1.out HLO.out HNW.out HBY.out HCT.out).mono ?_; rintro e w3 ⟨L', j, err, rfl, hsay, ht3⟩; have HT3 := Lib.hid ht3; have HSAY := Lib.hid hsay; clear ht3 hsay))
  all_goals
    clear b2 b4
    obtain ⟨b2, b4⟩ := HO.out _ HT3.out.stays
    go_wp2_with fail
    refine (twoR_append HT3.out HL.out HC.out HA.out nm (.slice a ln cap) l hnm F0.out F1.out R0.out R1.out HSRC.out HBY.out HCN.out).mono ?_
    rintro e w4 ⟨j2, err2, R', rfl, hc4, ht4, hall⟩
    obtain ⟨h1, h2, hlike⟩ := hall _ _ _ HSAY.out
    subst h1 h2
    have HT4 := Lib.hid ht4
    have HC4 := Lib.hid hc4
    have HL4 := Lib.hid hlike
    clear hc4 ht4 hall hlike b2 b4
    go_wp2_with fail
    go_ret
    refine ⟨by simp, _, _, _, _, _, _, _, HT4.out, HL4.out, HC4.out, ?_, ?_, ?_, R0.out, R1.out⟩
    · obtain ⟨S, T, k1, _⟩ := HT.out
      have h9 := HF.out.app k1 nm l (by have := HP.out; have := HLL.out; omega) HSAY.out
      rw [HLL.out] at h9
      exact h9
    · exact (apF_bd F0.out F1.out).1
    · exact (apF_bd F0.out F1.out).2
end
end Go.Proofs.Ytjkgcpbgacdgaaa
