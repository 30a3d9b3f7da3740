/- One call on both disks: their answers are alike. Conditions: what both hold, and what comes, is in its bounds. -/
import Derived.Test.YtjkgcpbgacdgaaaAR
import Derived.Deep.RegionHeld3
import Derived.Laws.NewBlocks
namespace Go.Proofs.Ytjkgcpbgacdgaaa
open Go.RowKit Go.Sort
structure PlaySt (W w : World) (b : Nat) (O : Option Obj) (d m r : Nat) (L : List Ent) (room fuse : Int) (down : Bool) (R : List RFile) (p q : Nat) : Prop where
  two : Two W w b O d m r L room fuse down R room fuse down
  like : Like L R
  caps : Caps R
  fits : Fits L p q
  f0 : -1 ≤ fuse
  f1 : fuse < 2 ^ 63
  r0 : 0 ≤ room
  r1 : room < 2 ^ 63
def Play (W w : World) (d m r p q : Nat) : Prop := ∃ b O L room fuse down R, PlaySt W w b O d m r L room fuse down R p q
def PlayPost (W : World) (d m r p q : Nat) (e : Ending) (w' : World) : Prop := e = .returned (.bool true) ∧ Play W w' d m r p q
theorem opF_bd {fuse : Int} (h : -1 ≤ fuse) (h1 : fuse < 2 ^ 63) : -1 ≤ opF fuse ∧ opF fuse < 2 ^ 63 := by unfold opF; split <;> omega
theorem chF_bd {L : List Ent} {fuse : Int} {down : Bool} {s : ByteArray} (h : -1 ≤ fuse) (h1 : fuse < 2 ^ 63) : -1 ≤ chF L fuse down s ∧ chF L fuse down s < 2 ^ 63 := by
  unfold chF
  split
  · exact opF_bd h h1
  · exact ⟨h, h1⟩
theorem renF_bd {L : List Ent} {fuse : Int} {down : Bool} {s t : ByteArray} (h : -1 ≤ fuse) (h1 : fuse < 2 ^ 63) : -1 ≤ renF L fuse down s t ∧ renF L fuse down s t < 2 ^ 63 := by
  unfold renF
  split
  · exact opF_bd h h1
  · exact ⟨h, h1⟩
theorem cutF_bd {L : List Ent} {fuse : Int} {down : Bool} {s : ByteArray} {n : Int} (h : -1 ≤ fuse) (h1 : fuse < 2 ^ 63) : -1 ≤ cutF L fuse down s n ∧ cutF L fuse down s n < 2 ^ 63 := by
  unfold cutF
  split
  · exact ⟨h, h1⟩
  · exact chF_bd h h1
section
variable {W w : World} {b : Nat} {O : Option Obj} {d m r : Nat} {L : List Ent} {room fuse : Int} {down : Bool} {R : List RFile} {p q : Nat}
theorem PlaySt.box (h : PlaySt W w b O d m r L room fuse down R p q) (o : Obj) : PlaySt W (w.alloc o) w.heap.size (some o) d m r L room fuse down R p q := ⟨h.two.box o, h.like, h.caps, h.fits, h.f0, h.f1, h.r0, h.r1⟩
theorem PlaySt.lenR (h : PlaySt W w b O d m r L room fuse down R p q) : R.length ≤ q := by rw [← like_len h.like]; exact h.fits.2.2
/-- The operation's block. -/
def opB (kind n : Int) (nm to : ByteArray) (a : Option Addr) (ln cap : Nat) : Obj := .cells #[.int .i64 kind, .int .i64 n, .string nm, .string to, .slice a ln cap] 56
set_option maxRecDepth 100000 in
theorem play2 (h : PlaySt W w b O d m r L room fuse down R p q) (n : Int) (nm to : ByteArray) (a : Option Addr) (ln cap : Nat) (hnm : nm.size ≤ maxLen) (hp : p ≤ 1000000000) (hq : q ≤ 1000000000) :
    Calls Try.prog 30 #[.pointer (some ⟨d, 0, none⟩), .pointer (some ⟨r, 0, none⟩), .agg #[.int .i64 2, .int .i64 n, .string nm, .string to, .slice a ln cap]] w (PlayPost W d m r (p + ln) (q + 1)) := by
  have h1 := h.box (opB 2 n nm to a ln cap)
  obtain ⟨w1, hw1⟩ : ∃ w1, w.alloc (opB 2 n nm to a ln cap) = w1 := ⟨_, rfl⟩
  obtain ⟨B, hB⟩ : ∃ B, w.heap.size = B := ⟨_, rfl⟩
  rw [hw1, hB] at h1
  have HL := Lib.hid h1.like
  have HC := Lib.hid h1.caps
  have HF := Lib.hid h1.fits
  have HLN := Lib.hid (show R.length ≤ 1000000000000 by have := h1.lenR; omega)
  have HT := Lib.hid h1.two
  have HA := Lib.hid h1.two.apart
  have F0 := Lib.hid h1.f0
  have F1 := Lib.hid h1.f1
  have R0 := Lib.hid h1.r0
  have R1 := Lib.hid h1.r1
  have hO := h1.two.stays
  have b0 : w1.cell? ⟨B, 0, none⟩ = some (.int .i64 2) := by simp [World.cell?, hO, opB]
  have b2 : w1.cell? ⟨B, 2, none⟩ = some (.string nm) := by simp [World.cell?, hO, opB]
  have HO := Lib.hid (fun (w' : World) (hs : w'.heap[B]? = some (opB 2 n nm to a ln cap)) => (show w'.cell? ⟨B, 2, none⟩ = some (.string nm) by simp [World.cell?, hs, opB]))
  unfold opB at hw1
  clear h h1 hO
  go_enter Try.func30, Try.ntmps30
  go_wp2_with fail
  clear b0 hw1 hB
  go_region_held3 (fun w' => w'.cell? ⟨B, 2, none⟩ = some (.string nm)) (first | exact HO.out _ HT2.out.stays | exact HO.out _ HT3.out.stays | exact HO.out _ HT4.out.stays | go_keep)
    (first
      | (go_at_call 22; refine (twoD_sync (by first | exact HT.out | exact HT.out.drew | exact HT3.out | exact HT3.out.drew) nm hnm F0.out F1.out).mono ?_; rintro e w2 ⟨rfl, ht2⟩; have HT2 := Lib.hid ht2; clear ht2)
      | (go_at_call 51; refine (twoR_sync (by first | exact HT.out | exact HT.out.drew | exact HT2.out | exact HT2.out.drew) HL.out HC.out HA.out nm F0.out F1.out HLN.out).mono ?_; rintro e w3 ⟨rfl, R', hl', hc', ht3⟩; have HT3 := Lib.hid ht3; have HL' := Lib.hid hl'; have HC' := Lib.hid hc'; clear ht3 hl' hc'))
  all_goals
    clear b2
    go_wp2_with fail
    go_ret
    obtain ⟨g0, g1⟩ := chF_bd (L := L) (down := down) (s := nm) F0.out F1.out
    refine ⟨by simp, _, _, _, _, _, _, _, HT3.out, HL'.out, HC'.out, ?_, g0, g1, R0.out, R1.out⟩
    obtain ⟨S, T, h1, _⟩ := HT.out
    exact (HF.out.sync h1 (by omega) nm).mono (by omega) (by omega)
set_option maxRecDepth 100000 in
theorem play4 (h : PlaySt W w b O d m r L room fuse down R p q) (n : Int) (nm to : ByteArray) (a : Option Addr) (ln cap : Nat) (hnm : nm.size ≤ maxLen) (hp : p ≤ 1000000000) (hq : q ≤ 1000000000) :
    Calls Try.prog 30 #[.pointer (some ⟨d, 0, none⟩), .pointer (some ⟨r, 0, none⟩), .agg #[.int .i64 4, .int .i64 n, .string nm, .string to, .slice a ln cap]] w (PlayPost W d m r (p + ln) (q + 1)) := by
  have h1 := h.box (opB 4 n nm to a ln cap)
  obtain ⟨w1, hw1⟩ : ∃ w1, w.alloc (opB 4 n nm to a ln cap) = w1 := ⟨_, rfl⟩
  obtain ⟨B, hB⟩ : ∃ B, w.heap.size = B := ⟨_, rfl⟩
  rw [hw1, hB] at h1
  have HL := Lib.hid h1.like
  have HC := Lib.hid h1.caps
  have HF := Lib.hid h1.fits
  have HLN := Lib.hid (show R.length ≤ 1000000000000 by have := h1.lenR; omega)
  have HT := Lib.hid h1.two
  have HA := Lib.hid h1.two.apart
  have F0 := Lib.hid h1.f0
  have F1 := Lib.hid h1.f1
  have R0 := Lib.hid h1.r0
  have R1 := Lib.hid h1.r1
  have hO := h1.two.stays
  have b0 : w1.cell? ⟨B, 0, none⟩ = some (.int .i64 4) := by simp [World.cell?, hO, opB]
  have b2 : w1.cell? ⟨B, 2, none⟩ = some (.string nm) := by simp [World.cell?, hO, opB]
  have HO := Lib.hid (fun (w' : World) (hs : w'.heap[B]? = some (opB 4 n nm to a ln cap)) => (show w'.cell? ⟨B, 2, none⟩ = some (.string nm) from by simp [World.cell?, hs, opB]))
  unfold opB at hw1
  clear h h1 hO
  go_enter Try.func30, Try.ntmps30
  go_wp2_with fail
  clear b0 hw1 hB
  go_region_held3 (fun w' => w'.cell? ⟨B, 2, none⟩ = some (.string nm)) (first | exact HO.out _ HT2.out.stays | exact HO.out _ HT3.out.stays | go_keep)
    (first
      | (go_at_call 34; refine (twoD_remove (by first | exact HT.out | exact HT.out.drew | exact HT3.out | exact HT3.out.drew) nm hnm F0.out F1.out).mono ?_; rintro e w2 ⟨rfl, ht2⟩; have HT2 := Lib.hid ht2; clear ht2)
      | (go_at_call 53; refine (twoR_remove (by first | exact HT.out | exact HT.out.drew | exact HT2.out | exact HT2.out.drew) HL.out HC.out HA.out nm F0.out F1.out HLN.out).mono ?_; rintro e w3 ⟨rfl, R', hl', hc', ht3⟩; have HT3 := Lib.hid ht3; have HL' := Lib.hid hl'; have HC' := Lib.hid hc'; clear ht3 hl' hc'))
  all_goals
    clear b2
    go_wp2_with fail
    go_ret
    obtain ⟨g0, g1⟩ := chF_bd (L := L) (down := down) (s := nm) F0.out F1.out
    refine ⟨by simp, _, _, _, _, _, _, _, HT3.out, HL'.out, HC'.out, ?_, g0, g1, R0.out, R1.out⟩
    obtain ⟨S, T, h1, _⟩ := HT.out
    exact (HF.out.rem nm).mono (by omega) (by omega)
set_option maxRecDepth 100000 in
theorem play5 (h : PlaySt W w b O d m r L room fuse down R p q) (n : Int) (nm to : ByteArray) (a : Option Addr) (ln cap : Nat) (hnm : nm.size ≤ maxLen) (hp : p ≤ 1000000000) (hq : q ≤ 1000000000) :
    Calls Try.prog 30 #[.pointer (some ⟨d, 0, none⟩), .pointer (some ⟨r, 0, none⟩), .agg #[.int .i64 5, .int .i64 n, .string nm, .string to, .slice a ln cap]] w (PlayPost W d m r (p + ln) (q + 1)) := by
  have h1 := h.box (opB 5 n nm to a ln cap)
  obtain ⟨w1, hw1⟩ : ∃ w1, w.alloc (opB 5 n nm to a ln cap) = w1 := ⟨_, rfl⟩
  obtain ⟨B, hB⟩ : ∃ B, w.heap.size = B := ⟨_, rfl⟩
  rw [hw1, hB] at h1
  have HL := Lib.hid h1.like
  have HC := Lib.hid h1.caps
  have HF := Lib.hid h1.fits
  have HLN := Lib.hid (show R.length ≤ 1000000000000 by have := h1.lenR; omega)
  have HT := Lib.hid h1.two
  have HA := Lib.hid h1.two.apart
  have F0 := Lib.hid h1.f0
  have F1 := Lib.hid h1.f1
  have R0 := Lib.hid h1.r0
  have R1 := Lib.hid h1.r1
  have hO := h1.two.stays
  have b0 : w1.cell? ⟨B, 0, none⟩ = some (.int .i64 5) := by simp [World.cell?, hO, opB]
  have b2 : w1.cell? ⟨B, 2, none⟩ = some (.string nm) := by simp [World.cell?, hO, opB]
  have b1 : w1.cell? ⟨B, 1, none⟩ = some (.int .i64 n) := by simp [World.cell?, hO, opB]
  have HO := Lib.hid (fun (w' : World) (hs : w'.heap[B]? = some (opB 5 n nm to a ln cap)) => (show w'.cell? ⟨B, 2, none⟩ = some (.string nm) ∧ w'.cell? ⟨B, 1, none⟩ = some (.int .i64 n) from ⟨by simp [World.cell?, hs, opB], by simp [World.cell?, hs, opB]⟩))
  have HLS := Lib.hid (show lens L ≤ 140737488355328 by have := h.fits.2.1; omega)
  unfold opB at hw1
  clear h h1 hO
  go_enter Try.func30, Try.ntmps30
  go_wp2_with fail
  clear b0 hw1 hB
  go_region_held3 (fun w' => w'.cell? ⟨B, 2, none⟩ = some (.string nm) ∧ w'.cell? ⟨B, 1, none⟩ = some (.int .i64 n)) (first | exact HO.out _ HT2.out.stays | exact HO.out _ HT3.out.stays | go_keep)
    (first
      | (go_at_call 14; refine (twoD_cut (by first | exact HT.out | exact HT.out.drew | exact HT3.out | exact HT3.out.drew) nm n hnm F0.out F1.out).mono ?_; rintro e w2 ⟨rfl, ht2⟩; have HT2 := Lib.hid ht2; clear ht2)
      | (go_at_call 54; refine (twoR_cut (by first | exact HT.out | exact HT.out.drew | exact HT2.out | exact HT2.out.drew) HL.out HC.out HA.out nm n F0.out F1.out HLN.out HLS.out).mono ?_; rintro e w3 ⟨rfl, R', hl', hc', ht3⟩; have HT3 := Lib.hid ht3; have HL' := Lib.hid hl'; have HC' := Lib.hid hc'; clear ht3 hl' hc'))
  all_goals
    clear b2 b1
    go_wp2_with fail
    go_ret
    obtain ⟨g0, g1⟩ := cutF_bd (L := L) (down := down) (s := nm) (n := n) F0.out F1.out
    refine ⟨by simp, _, _, _, _, _, _, _, HT3.out, HL'.out, HC'.out, ?_, g0, g1, R0.out, R1.out⟩
    obtain ⟨S, T, h1, _⟩ := HT.out
    exact (HF.out.cut h1 (by omega) nm n).mono (by omega) (by omega)
set_option maxRecDepth 100000 in
theorem play3 (h : PlaySt W w b O d m r L room fuse down R p q) (n : Int) (nm to : ByteArray) (a : Option Addr) (ln cap : Nat) (hnm : nm.size ≤ maxLen) (hto : to.size ≤ maxLen) (hp : p ≤ 1000000000) (hq : q ≤ 1000000000) :
    Calls Try.prog 30 #[.pointer (some ⟨d, 0, none⟩), .pointer (some ⟨r, 0, none⟩), .agg #[.int .i64 3, .int .i64 n, .string nm, .string to, .slice a ln cap]] w (PlayPost W d m r (p + ln) (q + 1)) := by
  have h1 := h.box (opB 3 n nm to a ln cap)
  obtain ⟨w1, hw1⟩ : ∃ w1, w.alloc (opB 3 n nm to a ln cap) = w1 := ⟨_, rfl⟩
  obtain ⟨B, hB⟩ : ∃ B, w.heap.size = B := ⟨_, rfl⟩
  rw [hw1, hB] at h1
  have HL := Lib.hid h1.like
  have HC := Lib.hid h1.caps
  have HF := Lib.hid h1.fits
  have HLN := Lib.hid (show R.length ≤ 1000000000000 by have := h1.lenR; omega)
  have HT := Lib.hid h1.two
  have HA := Lib.hid h1.two.apart
  have F0 := Lib.hid h1.f0
  have F1 := Lib.hid h1.f1
  have R0 := Lib.hid h1.r0
  have R1 := Lib.hid h1.r1
  have hO := h1.two.stays
  have b0 : w1.cell? ⟨B, 0, none⟩ = some (.int .i64 3) := by simp [World.cell?, hO, opB]
  have b2 : w1.cell? ⟨B, 2, none⟩ = some (.string nm) := by simp [World.cell?, hO, opB]
  have b3 : w1.cell? ⟨B, 3, none⟩ = some (.string to) := by simp [World.cell?, hO, opB]
  have HO := Lib.hid (fun (w' : World) (hs : w'.heap[B]? = some (opB 3 n nm to a ln cap)) => (show w'.cell? ⟨B, 2, none⟩ = some (.string nm) ∧ w'.cell? ⟨B, 3, none⟩ = some (.string to) from ⟨by simp [World.cell?, hs, opB], by simp [World.cell?, hs, opB]⟩))
  have HRI := Lib.hid (HT.out.rising HL.out)
  have HTO := Lib.hid hto
  have HLL := Lib.hid (show L.length < maxLen by have := h.fits.2.2; unfold maxLen; omega)
  clear hto
  unfold opB at hw1
  clear h h1 hO
  go_enter Try.func30, Try.ntmps30
  go_wp2_with fail
  clear b0 hw1 hB
  go_region_held3 (fun w' => w'.cell? ⟨B, 2, none⟩ = some (.string nm) ∧ w'.cell? ⟨B, 3, none⟩ = some (.string to)) (first | exact HO.out _ HT2.out.stays | exact HO.out _ HT3.out.stays | go_keep)
    (first
      | (go_at_call 33; refine (twoD_rename (by first | exact HT.out | exact HT.out.drew | exact HT3.out | exact HT3.out.drew) nm to hnm HTO.out F0.out F1.out HLL.out).mono ?_; rintro e w2 ⟨rfl, ht2⟩; have HT2 := Lib.hid ht2; clear ht2)
      | (go_at_call 52; refine (twoR_rename (by first | exact HT.out | exact HT.out.drew | exact HT2.out | exact HT2.out.drew) HL.out HC.out HA.out HRI.out nm to HTO.out F0.out F1.out HLN.out).mono ?_; rintro e w3 ⟨rfl, R', hl', hc', ht3⟩; have HT3 := Lib.hid ht3; have HL' := Lib.hid hl'; have HC' := Lib.hid hc'; clear ht3 hl' hc'))
  all_goals
    clear b2 b3
    go_wp2_with fail
    go_ret
    obtain ⟨g0, g1⟩ := renF_bd (L := L) (down := down) (s := nm) (t := to) F0.out F1.out
    refine ⟨by simp, _, _, _, _, _, _, _, HT3.out, HL'.out, HC'.out, ?_, g0, g1, R0.out, R1.out⟩
    obtain ⟨S, T, h1, _⟩ := HT.out
    exact (HF.out.ren nm to).mono (by omega) (by omega)
end
end Go.Proofs.Ytjkgcpbgacdgaaa
