/- The scanner's labels: what holds at each, and the walk from each of them to the next. Condition: the text's length. -/
import Derived.Test.YtcmdcdjclmpncaaC
namespace Go.Proofs.Ytcmdcdjclmpncaa
open Go.RowKit
def firstScope : Code → Option Code
  | .scope c => some c
  | .seq a b => match firstScope a with
    | some c => some c
    | none => firstScope b
  | .block _ c => firstScope c
  | _ => none
def BOwn (w : World) (base : Nat) (v : Value) (l : List UInt8) : Prop := w.ownsRow base 5 1 v l.length (Lib.byteCells l)
/-- The scanner at block X, the token at the call's first block; nothing else has turned. -/
def Wd (s : ByteArray) (X : Nat) (w wr : World) (k : Nat) (kind : Int) (text : ByteArray) (at_ : Int) : Prop :=
  wr.heap[X]? = some (.cells #[.string s, .int .i64 k] 46 (0, 0)) ∧ wr.heap[w.heap.size]? = some (.cells #[.int .i64 kind, .string text, .int .i64 at_] 34 (0, 0)) ∧ X < w.heap.size ∧ w.grownBy wr (some X)
section
variable {s text : ByteArray} {X k : Nat} {w wr w1 : World} {kind at_ : Int}
theorem Wd.cells (h : Wd s X w wr k kind text at_) : wr.cell? ⟨X, 0, none⟩ = some (.string s) ∧ wr.cell? ⟨X, 1, none⟩ = some (.int .i64 k) ∧ wr.frozen? ⟨X, 1, none⟩ = false := by
  simp [World.cell?, World.frozen?, h.1]
theorem Wd.tok (h : Wd s X w wr k kind text at_) : wr.cell? ⟨w.heap.size, 0, none⟩ = some (.int .i64 kind) ∧ wr.cell? ⟨w.heap.size, 1, none⟩ = some (.string text) ∧ wr.cell? ⟨w.heap.size, 2, none⟩ = some (.int .i64 at_) ∧
    wr.frozen? ⟨w.heap.size, 0, none⟩ = false ∧ wr.frozen? ⟨w.heap.size, 1, none⟩ = false ∧ wr.frozen? ⟨w.heap.size, 2, none⟩ = false := by
  simp [World.cell?, World.frozen?, h.2.1]
theorem grown_set {a w : World} {g : Nat} (h : a.grownBy w (some g)) {p : Addr} (hp : p.block = g ∨ a.heap.size ≤ p.block) (u : Value) : a.grownBy (w.setCell p u) (some g) :=
  ⟨h.os, h.tape, h.output, by simpa [World.setCell] using h.size, fun i hi hne => (Below.heap_setCell w p u i (by
    rintro rfl
    rcases hp with hp | hp
    · exact hne (by rw [hp])
    · omega)).trans (h.block i hi hne)⟩
theorem Wd.setK (h : Wd s X w wr k kind text at_) (k' : Nat) (u : Value) (hu : u = .int .i64 k') : Wd s X w (wr.setCell ⟨X, 1, none⟩ u) k' kind text at_ := by
  obtain ⟨h0, h1, h2, h3⟩ := h
  subst hu
  exact ⟨by rw [heap_setCell_same _ _ _ _ _ _ h0]; rfl, by rw [Below.heap_setCell _ _ _ _ (by simp; omega)]; exact h1, h2, grown_set h3 (.inl rfl) _⟩
theorem Wd.setKind (h : Wd s X w wr k kind text at_) (n : Int) : Wd s X w (wr.setCell ⟨w.heap.size, 0, none⟩ (.int .i64 n)) k n text at_ := by
  obtain ⟨h0, h1, h2, h3⟩ := h
  exact ⟨by rw [Below.heap_setCell _ _ _ _ (by simp; omega)]; exact h0, by rw [heap_setCell_same _ _ _ _ _ _ h1]; rfl, h2, grown_set h3 (.inr (Nat.le_refl _)) _⟩
theorem Wd.setText (h : Wd s X w wr k kind text at_) (n : ByteArray) : Wd s X w (wr.setCell ⟨w.heap.size, 1, none⟩ (.string n)) k kind n at_ := by
  obtain ⟨h0, h1, h2, h3⟩ := h
  exact ⟨by rw [Below.heap_setCell _ _ _ _ (by simp; omega)]; exact h0, by rw [heap_setCell_same _ _ _ _ _ _ h1]; rfl, h2, grown_set h3 (.inr (Nat.le_refl _)) _⟩
theorem Wd.setAt (h : Wd s X w wr k kind text at_) (n : Int) : Wd s X w (wr.setCell ⟨w.heap.size, 2, none⟩ (.int .i64 n)) k kind text n := by
  obtain ⟨h0, h1, h2, h3⟩ := h
  exact ⟨by rw [Below.heap_setCell _ _ _ _ (by simp; omega)]; exact h0, by rw [heap_setCell_same _ _ _ _ _ _ h1]; rfl, h2, grown_set h3 (.inr (Nat.le_refl _)) _⟩
theorem Wd.drewN (h : Wd s X w wr k kind text at_) (n : Nat) : Wd s X w (wr.drewN n) k kind text at_ := by
  obtain ⟨h0, h1, h2, h3⟩ := h
  exact ⟨h0, h1, h2, ⟨h3.os, h3.tape, h3.output, h3.size, h3.block⟩⟩
theorem Wd.drew (h : Wd s X w wr k kind text at_) : Wd s X w wr.drew k kind text at_ := by
  obtain ⟨h0, h1, h2, h3⟩ := h
  exact ⟨h0, h1, h2, ⟨h3.os, h3.tape, h3.output, h3.size, h3.block⟩⟩
/-- The token is stored into its own place. -/
theorem Wd.selfStore (h : Wd s X w wr k kind text at_) : Wd s X w (((wr.setCell ⟨w.heap.size, 0, none⟩ (.int .i64 kind)).setCell ⟨w.heap.size, 1, none⟩ (.string text)).setCell ⟨w.heap.size, 2, none⟩ (.int .i64 at_)) k kind text at_ :=
  ((h.setKind kind).setText text).setAt at_
theorem Wd.same (h : Wd s X w wr k kind text at_) (h0 : w1.heap = wr.heap) (ho : w1.os = wr.os) (ht : w1.tape = wr.tape) (hp : w1.output = wr.output) : Wd s X w w1 k kind text at_ := by
  obtain ⟨g0, g1, g2, g3⟩ := h
  exact ⟨by rw [h0]; exact g0, by rw [h0]; exact g1, g2, ⟨ho.trans g3.os, ht.trans g3.tape, hp.trans g3.output, by rw [h0]; exact g3.size, fun i hi hne => by rw [h0]; exact g3.block i hi hne⟩⟩
end
def kOfW (X : Nat) (wr : World) : Nat := match wr.cell? ⟨X, 1, none⟩ with
  | some (.int _ i) => i.toNat
  | _ => 0
theorem Wd.kOfW {s text : ByteArray} {X k : Nat} {w wr : World} {kind at_ : Int} (h : Wd s X w wr k kind text at_) : kOfW X wr = k := by
  unfold Ytcmdcdjclmpncaa.kOfW
  rw [h.cells.2.1]
  simp
def rank : Nat → Nat
  | 0 => 2
  | 4 => 0
  | _ => 1
def mu (s : ByteArray) (X : Nat) (l : Nat) (_ : Act) (wr : World) : Nat := 3 * (s.size - kOfW X wr) + rank l
def Fr (X : Nat) (w : World) (a : Act) : Prop := a.defers = [] ∧ a.tmps.size = 272 ∧ a.tmps.getD 0 undef = .pointer (some ⟨X, 0, none⟩) ∧ a.tmps.getD 2 undef = .pointer (some ⟨w.heap.size, 0, none⟩)
/-- At each label; l: the text from the token's first byte on. -/
def J0 (s : ByteArray) (l : List UInt8) (X : Nat) (w : World) (a : Act) (wr : World) : Prop :=
  Fr X w a ∧ a.tmps.getD 4 undef = .slice none 0 0 ∧ a.tmps.getD 6 undef = .bool false ∧ ∃ k at_, Wd s X w wr k 0 ⟨#[]⟩ at_ ∧ k ≤ s.size ∧ (s.data.toList.drop k).dropWhile blankB = l
def J1 (s : ByteArray) (l : List UInt8) (X : Nat) (w : World) (a : Act) (wr : World) : Prop :=
  Fr X w a ∧ ∃ k kind at_, Wd s X w wr k kind ⟨#[]⟩ ((at_ : Nat) : Int) ∧ at_ < k ∧ k ≤ s.size ∧ l = s.data.toList.drop at_ ∧ one l = some (1, pre l ((s.data.toList.drop k).dropWhile wordB), (s.data.toList.drop k).dropWhile wordB)
def numOne (l : List UInt8) (q : List UInt8) : One := if l.length - q.length ≤ 40 then some (3, pre l q, q) else none
def J2 (s : ByteArray) (l : List UInt8) (X : Nat) (w : World) (a : Act) (wr : World) : Prop :=
  Fr X w a ∧ ∃ k kind at_ p, a.tmps.getD 6 undef = .bool p ∧ Wd s X w wr k kind ⟨#[]⟩ ((at_ : Nat) : Int) ∧ at_ < k ∧ k ≤ s.size ∧ l = s.data.toList.drop at_ ∧ one l = numOne l (numR p (s.data.toList.drop k))
def quoOne (c : UInt8) (o : Option (List UInt8 × List UInt8)) : One := o.map fun p => (if c.toNat = 39 then 4 else 2, p.1, p.2)
def J3 (s : ByteArray) (l : List UInt8) (X : Nat) (w : World) (a : Act) (wr : World) : Prop :=
  Fr X w a ∧ ∃ k kind at_ c v acc, a.tmps.getD 5 undef = .int .u8 (c : UInt8).toNat ∧ a.tmps.getD 4 undef = v ∧ BOwn wr (w.heap.size + 1) v acc ∧ acc.length ≤ k ∧ Wd s X w wr k kind ⟨#[]⟩ ((at_ : Nat) : Int) ∧ at_ < k ∧ k ≤ s.size ∧ l = s.data.toList.drop at_ ∧
    c.toNat ≠ 92 ∧ one l = quoOne c (quotedL c acc (s.data.toList.drop k))
def J4 (s : ByteArray) (l : List UInt8) (X : Nat) (w : World) (a : Act) (wr : World) : Prop :=
  Fr X w a ∧ ∃ k kind at_, Wd s X w wr k kind ⟨#[]⟩ ((at_ : Nat) : Int) ∧ at_ < k ∧ k ≤ s.size ∧ l = s.data.toList.drop at_ ∧ one l = some (kind, pre l (s.data.toList.drop k), s.data.toList.drop k)
def JL (s : ByteArray) (l : List UInt8) (X : Nat) (w : World) : Nat → Act → World → Prop
  | 0 => J0 s l X w
  | 1 => J1 s l X w
  | 2 => J2 s l X w
  | 3 => J3 s l X w
  | 4 => J4 s l X w
  | _ => fun _ _ => False
/-- What holds where the scanner returns. -/
def Ret (s : ByteArray) (l : List UInt8) (X : Nat) (w : World) (a : Act) (wr : World) : Prop :=
  Fr X w a ∧ ∃ kind text at_ ok k, a.tmps.getD 3 undef = .bool ok ∧ Wd s X w wr k kind text at_ ∧ k ≤ s.size ∧ NextV l s.size kind text at_ ok k
theorem dw_step {s : ByteArray} {p : UInt8 → Bool} {k : Nat} (h0 : p 0 = false) (h : p (hd (s.data.toList.drop k)) = true) : k < s.size ∧ (s.data.toList.drop k).dropWhile p = (s.data.toList.drop (k + 1)).dropWhile p := by
  by_cases hk : k < s.size
  · rw [hd_in s k hk] at h
    rw [drop_cons s k hk, List.dropWhile_cons, if_pos h]
    exact ⟨hk, rfl⟩
  · rw [hd_out s k hk, h0] at h; cases h
theorem dw_stop {s : ByteArray} {p : UInt8 → Bool} {k : Nat} (h : p (hd (s.data.toList.drop k)) = false) : (s.data.toList.drop k).dropWhile p = s.data.toList.drop k := by
  by_cases hk : k < s.size
  · rw [hd_in s k hk] at h
    rw [drop_cons s k hk, List.dropWhile_cons, if_neg (by simp [h])]
  · rw [List.drop_eq_nil_of_le (by simp; omega)]; rfl
set_option maxRecDepth 100000 in
theorem frame_of (a : Act) (hs : a.tmps.size = 272) (hd : a.defers = []) : ∃ f : Nat → Value, a = ⟨#[f 0, f 1, f 2, f 3, f 4, f 5, f 6, f 7, f 8, f 9, f 10, f 11, f 12, f 13, f 14, f 15, f 16, f 17, f 18, f 19, f 20, f 21, f 22, f 23, f 24, f 25, f 26, f 27, f 28, f 29, f 30, f 31, f 32, f 33, f 34, f 35, f 36, f 37, f 38, f 39, f 40, f 41, f 42, f 43, f 44, f 45, f 46, f 47, f 48, f 49, f 50, f 51, f 52, f 53, f 54, f 55, f 56, f 57, f 58, f 59, f 60, f 61, f 62, f 63, f 64, f 65, f 66, f 67, f 68, f 69, f 70, f 71, f 72, f 73, f 74, f 75, f 76, f 77, f 78, f 79, f 80, f 81, f 82, f 83, f 84, f 85, f 86, f 87, f 88, f 89, f 90, f 91, f 92, f 93, f 94, f 95, f 96, f 97, f 98, f 99, f 100, f 101, f 102, f 103, f 104, f 105, f 106, f 107, f 108, f 109, f 110, f 111, f 112, f 113, f 114, f 115, f 116, f 117, f 118, f 119, f 120, f 121, f 122, f 123, f 124, f 125, f 126, f 127, f 128, f 129, f 130, f 131, f 132, f 133, f 134, f 135, f 136, f 137, f 138, f 139, f 140, f 141, f 142, f 143, f 144, f 145, f 146, f 147, f 148, f 149, f 150, f 151, f 152, f 153, f 154, f 155, f 156, f 157, f 158, f 159, f 160, f 161, f 162, f 163, f 164, f 165, f 166, f 167, f 168, f 169, f 170, f 171, f 172, f 173, f 174, f 175, f 176, f 177, f 178, f 179, f 180, f 181, f 182, f 183, f 184, f 185, f 186, f 187, f 188, f 189, f 190, f 191, f 192, f 193, f 194, f 195, f 196, f 197, f 198, f 199, f 200, f 201, f 202, f 203, f 204, f 205, f 206, f 207, f 208, f 209, f 210, f 211, f 212, f 213, f 214, f 215, f 216, f 217, f 218, f 219, f 220, f 221, f 222, f 223, f 224, f 225, f 226, f 227, f 228, f 229, f 230, f 231, f 232, f 233, f 234, f 235, f 236, f 237, f 238, f 239, f 240, f 241, f 242, f 243, f 244, f 245, f 246, f 247, f 248, f 249, f 250, f 251, f 252, f 253, f 254, f 255, f 256, f 257, f 258, f 259, f 260, f 261, f 262, f 263, f 264, f 265, f 266, f 267, f 268, f 269, f 270, f 271], []⟩ ∧ ∀ i, a.tmps.getD i undef = f i := by
  obtain ⟨xs, ds⟩ := a
  simp only at hs hd
  subst hd
  exact ⟨fun i => xs.getD i undef, by rw [← slots272 xs hs], fun _ => rfl⟩
theorem peek0 (s : ByteArray) (X k : Nat) (w : World) (hs : s.size ≤ 1048576) (hk : k ≤ s.size) (h0 : w.cell? ⟨X, 0, none⟩ = some (.string s)) (h1 : w.cell? ⟨X, 1, none⟩ = some (.int .i64 k)) :
    Calls Try.prog 24 #[.pointer (some ⟨X, 0, none⟩), .int .i64 0] w fun e w' => e = .returned (.int .u8 (hd (s.data.toList.drop k)).toNat) ∧ ∃ m, w' = w.drewN m := by
  have := peek s X k 0 w hs hk (by omega) h0 h1
  simpa using this
theorem peek1 (s : ByteArray) (X k : Nat) (w : World) (hs : s.size ≤ 1048576) (hk : k ≤ s.size) (h0 : w.cell? ⟨X, 0, none⟩ = some (.string s)) (h1 : w.cell? ⟨X, 1, none⟩ = some (.int .i64 k)) :
    Calls Try.prog 24 #[.pointer (some ⟨X, 0, none⟩), .int .i64 1] w fun e w' => e = .returned (.int .u8 (hd (s.data.toList.drop (k + 1))).toNat) ∧ ∃ m, w' = w.drewN m := by
  have := peek s X k 1 w hs hk (by omega) h0 h1
  simpa using this
end Go.Proofs.Ytcmdcdjclmpncaa
