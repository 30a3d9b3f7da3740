/- The program's disk and the document's, side by side in one heap: each operation of either leaves the other. No condition. -/
import Derived.Test.YtjkgcpbgacdgaaaAQ
namespace Go.Proofs.Ytjkgcpbgacdgaaa
open Go.RowKit Go.Sort
/-- Both disks lie in the heap, apart, in memory that is new since W. -/
def Two (W w : World) (b : Nat) (O : Option Obj) (d m r : Nat) (L : List Ent) (room fuse : Int) (down : Bool) (R : List RFile) (room' fuse' : Int) (down' : Bool) : Prop :=
  ∃ S T, DiskAt w S d m L room fuse down ∧ RefAt w T r R room' fuse' down' ∧ (∀ k, S k → ¬ T k) ∧ (∀ k, S k ∨ T k → W.heap.size ≤ k ∧ k < w.heap.size ∧ (O ≠ none → k ≠ b)) ∧ Below W.heap.size W w ∧ (O ≠ none → w.heap[b]? = O) ∧ (O ≠ none → b < w.heap.size)
section
variable {W w w' : World} {b : Nat} {O : Option Obj} {d m r : Nat} {L L' : List Ent} {room fuse room2 fuse2 room' fuse' room3 fuse3 : Int} {down down2 down' down3 : Bool} {R R' : List RFile}
theorem Two.later (h : Two W w b O d m r L room fuse down R room' fuse' down') (hb : Below w.heap.size w w') : Two W w' b O d m r L room fuse down R room' fuse' down' := by
  obtain ⟨S, T, h1, h2, h3, h4, h5, h6, h7⟩ := h
  exact ⟨S, T, h1.later hb, h2.later hb, h3, fun k hk => ⟨(h4 k hk).1, Nat.lt_of_lt_of_le (h4 k hk).2.1 hb.size, (h4 k hk).2.2⟩, h5.trans (hb.mono h5.size), fun hO => (hb.block b (h7 hO)).trans (h6 hO), fun hO => Nat.lt_of_lt_of_le (h7 hO) hb.size⟩
theorem Two.drew (h : Two W w b O d m r L room fuse down R room' fuse' down') : Two W w.drew b O d m r L room fuse down R room' fuse' down' := h.later (Below.refl _ _).drew
/-- A block is made: it is the one that stays. -/
theorem Two.box (h : Two W w b O d m r L room fuse down R room' fuse' down') (o : Obj) : Two W (w.alloc o) w.heap.size (some o) d m r L room fuse down R room' fuse' down' := by
  obtain ⟨S, T, h1, h2, h3, h4, h5, _, _⟩ := h
  have hb : Below w.heap.size w (w.alloc o) := (Below.refl _ _).alloc (Nat.le_refl _) _
  exact ⟨S, T, h1.later hb, h2.later hb, h3, fun k hk => ⟨(h4 k hk).1, Nat.lt_of_lt_of_le (h4 k hk).2.1 hb.size, fun _ => by have := (h4 k hk).2.1; omega⟩, h5.trans (hb.mono h5.size), fun _ => heap_alloc_new w o, fun _ => by simp⟩
theorem Two.stays {o : Obj} (h : Two W w b (some o) d m r L room fuse down R room' fuse' down') : w.heap[b]? = some o := by
  obtain ⟨S, T, h1, h2, h3, h4, h5, h6, h7⟩ := h
  exact h6 (by simp)
theorem Two.below (h : Two W w b O d m r L room fuse down R room' fuse' down') : Below W.heap.size W w := by
  obtain ⟨S, T, h1, h2, h3, h4, h5, h6, h7⟩ := h
  exact h5
theorem Two.drewN (h : Two W w b O d m r L room fuse down R room' fuse' down') (n : Nat) : Two W (w.drewN n) b O d m r L room fuse down R room' fuse' down' := h.later (below_drewN (Below.refl _ _) n)
theorem Two.stepD {S T : Nat → Prop} (_h1 : DiskAt w S d m L room fuse down) (h2 : RefAt w T r R room' fuse' down') (h3 : ∀ k, S k → ¬ T k) (h4 : ∀ k, S k ∨ T k → W.heap.size ≤ k ∧ k < w.heap.size ∧ (O ≠ none → k ≠ b)) (h5 : Below W.heap.size W w) (h6 : O ≠ none → w.heap[b]? = O) (h7 : O ≠ none → b < w.heap.size)
    (ht : Turns S w w') (hd : DiskAt w' (With S w w') d m L' room2 fuse2 down2) : Two W w' b O d m r L' room2 fuse2 down2 R room' fuse' down' := by
  have hsz := ht.size
  have hW := h5.size
  refine ⟨With S w w', T, hd, h2.beside ht fun k hk hl hs => h3 k hs hk, fun k hk hT => ?_, fun k hk => ?_, h5.trans (ht.below hW fun x hx => (h4 x (.inl hx)).1), fun hO => (ht.block b (h7 hO) fun hs => (h4 b (.inl hs)).2.2 hO rfl).trans (h6 hO), fun hO => Nat.lt_of_lt_of_le (h7 hO) hsz⟩
  · rcases hk with hk | hk
    · exact h3 k hk hT
    · have := (h4 k (.inr hT)).2.1
      omega
  · rcases hk with (hk | hk) | hk
    · have g := h4 k (.inl hk); exact ⟨g.1, by omega, g.2.2⟩
    · exact ⟨by omega, by omega, fun hO => by have := h7 hO; omega⟩
    · have g := h4 k (.inr hk); exact ⟨g.1, by omega, g.2.2⟩
theorem Two.stepR {S T : Nat → Prop} (h1 : DiskAt w S d m L room fuse down) (_h2 : RefAt w T r R room' fuse' down') (h3 : ∀ k, S k → ¬ T k) (h4 : ∀ k, S k ∨ T k → W.heap.size ≤ k ∧ k < w.heap.size ∧ (O ≠ none → k ≠ b)) (h5 : Below W.heap.size W w) (h6 : O ≠ none → w.heap[b]? = O) (h7 : O ≠ none → b < w.heap.size)
    (ht : Turns T w w') (hr : RefAt w' (With T w w') r R' room3 fuse3 down3) : Two W w' b O d m r L room fuse down R' room3 fuse3 down3 := by
  have hsz := ht.size
  have hW := h5.size
  refine ⟨S, With T w w', h1.beside ht fun k hk hl hs => h3 k hk hs, hr, fun k hk hT => ?_, fun k hk => ?_, h5.trans (ht.below hW fun x hx => (h4 x (.inr hx)).1), fun hO => (ht.block b (h7 hO) fun hs => (h4 b (.inr hs)).2.2 hO rfl).trans (h6 hO), fun hO => Nat.lt_of_lt_of_le (h7 hO) hsz⟩
  · rcases hT with hT | hT
    · exact h3 k hk hT
    · have := (h4 k (.inl hk)).2.1
      omega
  · rcases hk with hk | (hk | hk)
    · have g := h4 k (.inl hk); exact ⟨g.1, by omega, g.2.2⟩
    · have g := h4 k (.inr hk); exact ⟨g.1, by omega, g.2.2⟩
    · exact ⟨by omega, by omega, fun hO => by have := h7 hO; omega⟩
theorem Two.apart (h : Two W w b O d m r L room fuse down R room' fuse' down') : Apart (L.map pE) := by
  obtain ⟨S, T, h1, _⟩ := h
  exact h1.apartP
theorem Two.rising (h : Two W w b O d m r L room fuse down R room' fuse' down') (hl : Like L R) : Rising R := by
  obtain ⟨S, T, h1, _⟩ := h
  exact rising_like hl h1.rising
theorem OnlyD.withSelf {S : Nat → Prop} {d m : Nat} {L : List Ent} {room fuse : Int} {down : Bool} (hd : DiskAt w' S d m L room fuse down) : DiskAt w' (With S w w') d m L room fuse down := hd.more fun _ h => .inl h
-- the program's
theorem twoD_sync (h : Two W w b O d m r L room fuse down R room' fuse' down') (s : ByteArray) (hs : s.size ≤ maxLen) (hf : -1 ≤ fuse) (hf2 : fuse < 2 ^ 63) :
    Calls Try.prog 22 #[.pointer (some ⟨d, 0, none⟩), .string s] w fun e w' => e = .returned (.int .i64 (chE L fuse down s)) ∧ Two W w' b O d m r (syncL L fuse down s) room (chF L fuse down s) (chD L fuse down s) R room' fuse' down' := by
  obtain ⟨S, T, h1, h2, h3, h4, h5, h6, h7⟩ := h
  exact (sync w S d m L room fuse down s hs h1 hf hf2).mono fun e w' ⟨he, ht, _, hd⟩ => ⟨he, Two.stepD h1 h2 h3 h4 h5 h6 h7 ht (OnlyD.withSelf hd)⟩
theorem twoD_rename (h : Two W w b O d m r L room fuse down R room' fuse' down') (s t : ByteArray) (hs : s.size ≤ maxLen) (hts : t.size ≤ maxLen) (hf : -1 ≤ fuse) (hf2 : fuse < 2 ^ 63) (hc : L.length < maxLen) :
    Calls Try.prog 33 #[.pointer (some ⟨d, 0, none⟩), .string s, .string t] w fun e w' => e = .returned (.int .i64 (renE L fuse down s t)) ∧ Two W w' b O d m r (renL L fuse down s t) room (renF L fuse down s t) (renD L fuse down s t) R room' fuse' down' := by
  obtain ⟨S, T, h1, h2, h3, h4, h5, h6, h7⟩ := h
  exact (rename w S d m L room fuse down s t hs hts h1 hf hf2 hc).mono fun e w' ⟨he, ht, hd⟩ => ⟨he, Two.stepD h1 h2 h3 h4 h5 h6 h7 ht (OnlyD.withSelf hd)⟩
theorem twoD_remove (h : Two W w b O d m r L room fuse down R room' fuse' down') (s : ByteArray) (hs : s.size ≤ maxLen) (hf : -1 ≤ fuse) (hf2 : fuse < 2 ^ 63) :
    Calls Try.prog 34 #[.pointer (some ⟨d, 0, none⟩), .string s] w fun e w' => e = .returned (.int .i64 (chE L fuse down s)) ∧ Two W w' b O d m r (remL L fuse down s) room (chF L fuse down s) (chD L fuse down s) R room' fuse' down' := by
  obtain ⟨S, T, h1, h2, h3, h4, h5, h6, h7⟩ := h
  exact (remove w S d m L room fuse down s hs h1 hf hf2).mono fun e w' ⟨he, ht, _, hd⟩ => ⟨he, Two.stepD h1 h2 h3 h4 h5 h6 h7 ht (OnlyD.withSelf hd)⟩
theorem twoD_cut (h : Two W w b O d m r L room fuse down R room' fuse' down') (s : ByteArray) (n : Int) (hs : s.size ≤ maxLen) (hf : -1 ≤ fuse) (hf2 : fuse < 2 ^ 63) :
    Calls Try.prog 14 #[.pointer (some ⟨d, 0, none⟩), .string s, .int .i64 n] w fun e w' => e = .returned (.int .i64 (cutE L fuse down s n)) ∧ Two W w' b O d m r (cutL L fuse down s n) room (cutF L fuse down s n) (cutD L fuse down s n) R room' fuse' down' := by
  obtain ⟨S, T, h1, h2, h3, h4, h5, h6, h7⟩ := h
  exact (cut w S d m L room fuse down s n hs h1 hf hf2).mono fun e w' ⟨he, ht, _, hd⟩ => ⟨he, Two.stepD h1 h2 h3 h4 h5 h6 h7 ht (OnlyD.withSelf hd)⟩
theorem twoD_room (h : Two W w b O d m r L room fuse down R room' fuse' down') (n : Int) :
    Calls Try.prog 32 #[.pointer (some ⟨d, 0, none⟩), .int .i64 n] w fun e w' => e = .returned (.tuple #[]) ∧ Two W w' b O d m r L (max n 0) fuse down R room' fuse' down' := by
  obtain ⟨S, T, h1, h2, h3, h4, h5, h6, h7⟩ := h
  exact (setRoom w S d m L room fuse down n h1).mono fun e w' ⟨he, ho, hd⟩ => ⟨he, Two.stepD h1 h2 h3 h4 h5 h6 h7 (ho.turns h1.here.1) (OnlyD.withSelf hd)⟩
theorem twoD_fuse (h : Two W w b O d m r L room fuse down R room' fuse' down') (n : Int) :
    Calls Try.prog 26 #[.pointer (some ⟨d, 0, none⟩), .int .i64 n] w fun e w' => e = .returned (.tuple #[]) ∧ Two W w' b O d m r L room (max n (-1)) down R room' fuse' down' := by
  obtain ⟨S, T, h1, h2, h3, h4, h5, h6, h7⟩ := h
  exact (setFuse w S d m L room fuse down n h1).mono fun e w' ⟨he, ho, hd⟩ => ⟨he, Two.stepD h1 h2 h3 h4 h5 h6 h7 (ho.turns h1.here.1) (OnlyD.withSelf hd)⟩
theorem twoD_restart (h : Two W w b O d m r L room fuse down R room' fuse' down') (hG : Good L) (hn : L.length ≤ 8000000000000) (src : Value) (cs : List UInt8) (hsrc : ∀ S, (∀ x, S x → W.heap.size ≤ x) → SrcAt W S src (Lib.byteCells cs)) :
    Calls Try.prog 23 #[.pointer (some ⟨d, 0, none⟩), src] w fun e w' => e = .returned (.tuple #[]) ∧ Two W w' b O d m r (rst cs L) room (-1) false R room' fuse' down' := by
  obtain ⟨S, T, h1, h2, h3, h4, h5, h6, h7⟩ := h
  exact (restart w S d m L room fuse down src cs (fun k hk => (h4 k (.inl hk)).2.1) h1 hG hn ((hsrc S fun x hx => (h4 x (.inl hx)).1).later h5)).mono fun e w' ⟨he, ht, hd⟩ => ⟨he, Two.stepD h1 h2 h3 h4 h5 h6 h7 ht (OnlyD.withSelf hd)⟩
theorem twoD_append {w0 : World} (h0 : Two W w0 b O d m r L room fuse down R room' fuse' down') (hb : Below w0.heap.size w0 w) (s : ByteArray) (src : Value) (l : List UInt8) (hs : s.size ≤ maxLen) (hf : -1 ≤ fuse) (hf2 : fuse < 2 ^ 63) (hr : 0 ≤ room) (hr2 : room < 2 ^ 63) (hsrc : Loose w 5 src (Lib.byteCells l)) (hnew : ∀ g, src.ownBlock = some g → w0.heap.size ≤ g) (hbytes : lens L + (Lib.byteCells l).length ≤ 140737488355328) (hcount : L.length < maxLen) :
    Calls Try.prog 13 #[.pointer (some ⟨d, 0, none⟩), .string s, src] w fun e w' => ∃ L' j err, e = .returned (.tuple #[.int .i64 (j : Nat), .int .i64 err]) ∧ AppSays L room fuse down s (Lib.byteCells l) L' j err ∧ Two W w' b O d m r L' room (apF fuse down s) (apD fuse down s) R room' fuse' down' := by
  obtain ⟨S, T, h1, h2, h3, h4, h5, h6, h7⟩ := h0
  have k4 : ∀ k, S k ∨ T k → W.heap.size ≤ k ∧ k < w.heap.size ∧ (O ≠ none → k ≠ b) := fun k hk => ⟨(h4 k hk).1, Nat.lt_of_lt_of_le (h4 k hk).2.1 hb.size, (h4 k hk).2.2⟩
  refine (append w S d m L room fuse down s src (Lib.byteCells l) hs (h1.later hb) hf hf2 hr hr2 (SrcAt.of_loose hsrc fun g hg hS => ?_) hbytes hcount).mono ?_
  · have := hnew g hg
    have := (h4 g (.inl hS)).2.1
    omega
  · rintro e w' ⟨L', j, err, he, ht, hd, hsay⟩
    exact ⟨L', j, err, he, hsay, Two.stepD (h1.later hb) (h2.later hb) h3 k4 (h5.trans (hb.mono h5.size)) (fun hO => (hb.block b (h7 hO)).trans (h6 hO)) (fun hO => Nat.lt_of_lt_of_le (h7 hO) hb.size) ht hd⟩
-- the document's
theorem Two.refIs {S T : Nat → Prop} (h1 : DiskAt w S d m L room fuse down) (h2 : RefAt w T r R room' fuse' down') (h3 : ∀ k, S k → ¬ T k) (h4 : ∀ k, S k ∨ T k → W.heap.size ≤ k ∧ k < w.heap.size ∧ (O ≠ none → k ≠ b)) (h5 : Below W.heap.size W w) (h6 : O ≠ none → w.heap[b]? = O) (h7 : O ≠ none → b < w.heap.size) (hi : RefIs w w' T r L' room3 fuse3 down3) :
    ∃ R', Like L' R' ∧ Caps R' ∧ Two W w' b O d m r L room fuse down R' room3 fuse3 down3 := by
  obtain ⟨R', hl, ht, hc, hr⟩ := hi
  exact ⟨R', hl, hc, Two.stepR h1 h2 h3 h4 h5 h6 h7 ht hr⟩
theorem twoR_sync (h : Two W w b O d m r L room fuse down R room' fuse' down') {L0 : List Ent} (hl : Like L0 R) (hc : Caps R) (ha : Apart (L0.map pE)) (s : ByteArray) (hf : -1 ≤ fuse') (hf2 : fuse' < 2 ^ 63) (hn : R.length ≤ 1000000000000) :
    Calls Try.prog 51 #[.pointer (some ⟨r, 0, none⟩), .string s] w fun e w' => e = .returned (.int .i64 (chE L0 fuse' down' s)) ∧ ∃ R', Like (syncL L0 fuse' down' s) R' ∧ Caps R' ∧ Two W w' b O d m r L room fuse down R' room' (chF L0 fuse' down' s) (chD L0 fuse' down' s) := by
  obtain ⟨S, T, h1, h2, h3, h4, h5, h6, h7⟩ := h
  exact (refSync w T r L0 R room' fuse' down' s h2 hl hc ha hf hf2 hn).mono fun e w' ⟨he, hi⟩ => ⟨he, Two.refIs h1 h2 h3 h4 h5 h6 h7 hi⟩
theorem twoR_remove (h : Two W w b O d m r L room fuse down R room' fuse' down') {L0 : List Ent} (hl : Like L0 R) (hc : Caps R) (ha : Apart (L0.map pE)) (s : ByteArray) (hf : -1 ≤ fuse') (hf2 : fuse' < 2 ^ 63) (hn : R.length ≤ 1000000000000) :
    Calls Try.prog 53 #[.pointer (some ⟨r, 0, none⟩), .string s] w fun e w' => e = .returned (.int .i64 (chE L0 fuse' down' s)) ∧ ∃ R', Like (remL L0 fuse' down' s) R' ∧ Caps R' ∧ Two W w' b O d m r L room fuse down R' room' (chF L0 fuse' down' s) (chD L0 fuse' down' s) := by
  obtain ⟨S, T, h1, h2, h3, h4, h5, h6, h7⟩ := h
  exact (refRemove w T r L0 R room' fuse' down' s h2 hl hc ha hf hf2 hn).mono fun e w' ⟨he, hi⟩ => ⟨he, Two.refIs h1 h2 h3 h4 h5 h6 h7 hi⟩
theorem twoR_rename (h : Two W w b O d m r L room fuse down R room' fuse' down') {L0 : List Ent} (hl : Like L0 R) (hc : Caps R) (ha : Apart (L0.map pE)) (hrs : Rising R) (s t : ByteArray) (ht : t.size ≤ maxLen) (hf : -1 ≤ fuse') (hf2 : fuse' < 2 ^ 63) (hn : R.length ≤ 1000000000000) :
    Calls Try.prog 52 #[.pointer (some ⟨r, 0, none⟩), .string s, .string t] w fun e w' => e = .returned (.int .i64 (renE L0 fuse' down' s t)) ∧ ∃ R', Like (renL L0 fuse' down' s t) R' ∧ Caps R' ∧ Two W w' b O d m r L room fuse down R' room' (renF L0 fuse' down' s t) (renD L0 fuse' down' s t) := by
  obtain ⟨S, T, h1, h2, h3, h4, h5, h6, h7⟩ := h
  exact (refRename w T r L0 R room' fuse' down' s t ht h2 hl hc ha hrs hf hf2 hn).mono fun e w' ⟨he, hi⟩ => ⟨he, Two.refIs h1 h2 h3 h4 h5 h6 h7 hi⟩
theorem twoR_cut (h : Two W w b O d m r L room fuse down R room' fuse' down') {L0 : List Ent} (hl : Like L0 R) (hc : Caps R) (ha : Apart (L0.map pE)) (s : ByteArray) (n : Int) (hf : -1 ≤ fuse') (hf2 : fuse' < 2 ^ 63) (hn : R.length ≤ 1000000000000) (hls : lens L0 ≤ 140737488355328) :
    Calls Try.prog 54 #[.pointer (some ⟨r, 0, none⟩), .string s, .int .i64 n] w fun e w' => e = .returned (.int .i64 (cutE L0 fuse' down' s n)) ∧ ∃ R', Like (cutL L0 fuse' down' s n) R' ∧ Caps R' ∧ Two W w' b O d m r L room fuse down R' room' (cutF L0 fuse' down' s n) (cutD L0 fuse' down' s n) := by
  obtain ⟨S, T, h1, h2, h3, h4, h5, h6, h7⟩ := h
  exact (refCut w T r L0 R room' fuse' down' s n h2 hl hc ha hf hf2 hn hls).mono fun e w' ⟨he, hi⟩ => ⟨he, Two.refIs h1 h2 h3 h4 h5 h6 h7 hi⟩
theorem twoR_room (h : Two W w b O d m r L room fuse down R room' fuse' down') (n : Int) :
    Calls Try.prog 55 #[.pointer (some ⟨r, 0, none⟩), .int .i64 n] w fun e w' => e = .returned (.tuple #[]) ∧ Two W w' b O d m r L room fuse down R (max n 0) fuse' down' := by
  obtain ⟨S, T, h1, h2, h3, h4, h5, h6, h7⟩ := h
  exact (refSetRoom w T r R room' fuse' down' n h2).mono fun e w' ⟨he, ho, hr⟩ => ⟨he, Two.stepR h1 h2 h3 h4 h5 h6 h7 (ho.turns h2.here) (hr.more fun _ h => .inl h)⟩
theorem twoR_fuse (h : Two W w b O d m r L room fuse down R room' fuse' down') (n : Int) :
    Calls Try.prog 56 #[.pointer (some ⟨r, 0, none⟩), .int .i64 n] w fun e w' => e = .returned (.tuple #[]) ∧ Two W w' b O d m r L room fuse down R room' (max n (-1)) down' := by
  obtain ⟨S, T, h1, h2, h3, h4, h5, h6, h7⟩ := h
  exact (refSetFuse w T r R room' fuse' down' n h2).mono fun e w' ⟨he, ho, hr⟩ => ⟨he, Two.stepR h1 h2 h3 h4 h5 h6 h7 (ho.turns h2.here) (hr.more fun _ h => .inl h)⟩
theorem twoR_restart (h : Two W w b O d m r L room fuse down R room' fuse' down') (hG : GoodR R) (hc : Caps R) (hn : R.length ≤ 1000000000000) (src : Value) (cs : List UInt8) (hsrc : ∀ S, (∀ x, S x → W.heap.size ≤ x) → SrcAt W S src (Lib.byteCells cs)) :
    Calls Try.prog 57 #[.pointer (some ⟨r, 0, none⟩), src] w fun e w' => e = .returned (.tuple #[]) ∧ Caps (rRst cs R) ∧ Two W w' b O d m r L room fuse down (rRst cs R) room' (-1) false := by
  obtain ⟨S, T, h1, h2, h3, h4, h5, h6, h7⟩ := h
  exact (refRestart w T r R room' fuse' down' src cs h2 hG hc hn ((hsrc T fun x hx => (h4 x (.inr hx)).1).later h5)).mono fun e w' ⟨he, ht, hr, hc'⟩ => ⟨he, hc', Two.stepR h1 h2 h3 h4 h5 h6 h7 ht (hr.more fun _ h => .inl h)⟩
theorem twoR_append (h : Two W w b O d m r L room fuse down R room' fuse' down') {L0 : List Ent} (hl : Like L0 R) (hc : Caps R) (ha : Apart (L0.map pE)) (s : ByteArray) (src : Value) (l : List UInt8) (hs : s.size ≤ maxLen) (hf : -1 ≤ fuse') (hf2 : fuse' < 2 ^ 63) (hr : 0 ≤ room') (hr2 : room' < 2 ^ 63) (hsrc : ∀ S, (∀ x, S x → W.heap.size ≤ x) → SrcAt W S src (Lib.byteCells l)) (hbytes : lens L0 + (Lib.byteCells l).length ≤ 140737488355328) (hn : L0.length ≤ 100000000000) :
    Calls Try.prog 50 #[.pointer (some ⟨r, 0, none⟩), .string s, src] w fun e w' => ∃ (j : Nat) (err : Int) (R' : List RFile), e = .returned (.tuple #[.int .i64 (j : Nat), .int .i64 err]) ∧ Caps R' ∧ Two W w' b O d m r L room fuse down R' room' (apF fuse' down' s) (apD fuse' down' s) ∧
      ∀ L' j' err', AppSays L0 room' fuse' down' s (Lib.byteCells l) L' j' err' → j' = j ∧ err' = err ∧ Like L' R' := by
  obtain ⟨S, T, h1, h2, h3, h4, h5, h6, h7⟩ := h
  refine (refAppend w T r L0 R room' fuse' down' s src (Lib.byteCells l) hs h2 hl hc ha hf hf2 hr hr2 ((hsrc T fun x hx => (h4 x (.inr hx)).1).later h5) hbytes hn).mono ?_
  rintro e w' ⟨j, err, R', he, ht, hc', hr', hall⟩
  exact ⟨j, err, R', he, hc', Two.stepR h1 h2 h3 h4 h5 h6 h7 ht hr', hall⟩
end
end Go.Proofs.Ytjkgcpbgacdgaaa
