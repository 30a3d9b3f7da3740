/- The document's disk: what holds of it, and its small functions. No condition. -/
import Derived.Test.YtjkgcpbgacdgaaaV
namespace Go.Proofs.Ytjkgcpbgacdgaaa
open Go.RowKit Go.Sort
/-- A file of the document's disk. -/
structure RFile where
  name : ByteArray
  v : Value
  bs : List Value
  syn : Int
def refCells : List RFile → List Value
  | [] => []
  | e :: r => .string e.name :: e.v :: .int .i64 e.syn :: refCells r
/-- The document's disk: its files in a row of their own; a fuse below 0 is none. -/
structure RefAt (w : World) (T : Nat → Prop) (r : Nat) (R : List RFile) (room fuse : Int) (down : Bool) : Prop where
  blk : ∃ fv fz, w.heap[r]? = some (.cells #[fv, .int .i64 room, .bool (decide (0 ≤ fuse)), .int .i64 fz, .bool down] 96 (0, 0)) ∧ (0 ≤ fuse → fz = fuse) ∧ w.ownsRow 0 106 3 fv R.length (refCells R) ∧ ∀ g, fv.ownBlock = some g → T g ∧ ∀ e ∈ R, e.v.ownBlock ≠ some g
  bytes : ∀ e ∈ R, Src w e.v e.bs ∧ ∀ g, e.v.ownBlock = some g → T g ∧ g ≠ r ∧ g < w.heap.size
  here : T r
theorem refDown (w : World) (T : Nat → Prop) (r : Nat) (R : List RFile) (room fuse : Int) (down : Bool) (h : RefAt w T r R room fuse down) :
    Calls Try.prog 59 #[.pointer (some ⟨r, 0, none⟩)] w fun e w' => e = .returned (.bool down) ∧ w = w' := by
  obtain ⟨fv, fz, hb, _⟩ := h.blk
  have c4 : w.cell? ⟨r, 4, none⟩ = some (.bool down) := by simp [World.cell?, hb]
  clear h hb
  go_enter Try.func59, Try.ntmps59
  go_wp2
  go_ret
  exact ⟨rfl, rfl⟩
theorem Src.same {w w' : World} {v : Value} {xs : List Value} (h : Src w v xs) (hk : ∀ g, v.ownBlock = some g → w'.heap[g]? = w.heap[g]?) : Src w' v xs := by
  rcases h with h | ⟨ad, c, rfl, h1, h2⟩
  · exact .inl h
  · refine .inr ⟨ad, c, rfl, fun j u hj => ?_, h2⟩
    have e : w'.heap[(ad.add j).block]? = w.heap[(ad.add j).block]? := by rw [add_block]; exact hk ad.block rfl
    exact (World.cell?_of_block e).trans (h1 j u hj)
theorem ownsRow_same {w w' : World} {base n size : Nat} {t : TypeId} {v : Value} {xs : List Value} (h : w.ownsRow base t size v n xs) (hk : ∀ g, v.ownBlock = some g → w'.heap[g]? = w.heap[g]?) : w'.ownsRow base t size v n xs := by
  obtain ⟨h0, h⟩ := h
  refine ⟨h0, ?_⟩
  rcases h with h | ⟨g, cap, cur, rfl, h1, h2, h3⟩
  · exact .inl h
  · exact .inr ⟨g, cap, cur, rfl, h1, (hk g rfl).trans h2, h3⟩
/-- The document's disk's own block is written. -/
theorem RefAt.set {w w' : World} {T : Nat → Prop} {r : Nat} {R : List RFile} {room fuse : Int} {down : Bool} (h : RefAt w T r R room fuse down) {room' fuse' : Int} {down' : Bool}
    (hd : ∀ fv fz, w.heap[r]? = some (.cells #[fv, .int .i64 room, .bool (decide (0 ≤ fuse)), .int .i64 fz, .bool down] 96 (0, 0)) → (0 ≤ fuse → fz = fuse) → ∃ fz', w'.heap[r]? = some (.cells #[fv, .int .i64 room', .bool (decide (0 ≤ fuse')), .int .i64 fz', .bool down'] 96 (0, 0)) ∧ (0 ≤ fuse' → fz' = fuse'))
    (ho : OnlyD r w w') : RefAt w' T r R room' fuse' down' := by
  obtain ⟨fv, fz, hb, hz, hrow, hap⟩ := h.blk
  obtain ⟨fz', hb', hz'⟩ := hd fv fz hb hz
  refine ⟨⟨fv, fz', hb', hz', ownsRow_same hrow fun g hg => ho.2.2.2.2 g ?_, hap⟩, fun e he => ⟨(h.bytes e he).1.same fun g hg => ho.2.2.2.2 g ((h.bytes e he).2 g hg).2.1, fun g hg => ?_⟩, h.here⟩
  · rintro rfl
    obtain ⟨_, hrow⟩ := hrow
    rcases hrow with ⟨rfl, _⟩ | ⟨g', cap, cur, rfl, _, h2, _⟩
    · cases hg
    · cases hg
      rw [hb] at h2
      simp at h2
  · have := (h.bytes e he).2 g hg
    rw [ho.2.2.2.1]
    exact this
theorem refSetRoom (w : World) (T : Nat → Prop) (r : Nat) (R : List RFile) (room fuse : Int) (down : Bool) (n : Int) (h : RefAt w T r R room fuse down) :
    Calls Try.prog 55 #[.pointer (some ⟨r, 0, none⟩), .int .i64 n] w fun e w' => e = .returned (.tuple #[]) ∧ OnlyD r w w' ∧ RefAt w' T r R (max n 0) fuse down := by
  obtain ⟨fv, fz, hb, hrest⟩ := h.blk
  have c1 : w.cell? ⟨r, 1, none⟩ = some (.int .i64 room) := by simp [World.cell?, hb]
  have z1 : w.frozen? ⟨r, 1, none⟩ = false := by simp [World.frozen?, hb]
  have HH := Lib.hid h
  clear h hb hrest
  go_enter Try.func55, Try.ntmps55
  go_wp2
  go_end0
  refine ⟨rfl, onlyD_set w r 1 _, HH.out.set (fun fv fz hb hz => ⟨fz, ?_, hz⟩) (onlyD_set w r 1 _)⟩
  rw [heap_setCell_same _ _ _ _ _ _ hb]; rfl
theorem refSetFuse (w : World) (T : Nat → Prop) (r : Nat) (R : List RFile) (room fuse : Int) (down : Bool) (n : Int) (h : RefAt w T r R room fuse down) :
    Calls Try.prog 56 #[.pointer (some ⟨r, 0, none⟩), .int .i64 n] w fun e w' => e = .returned (.tuple #[]) ∧ OnlyD r w w' ∧ RefAt w' T r R room (max n (-1)) down := by
  obtain ⟨fv, fz, hb, hrest⟩ := h.blk
  have c2 : w.cell? ⟨r, 2, none⟩ = some (.bool (decide (0 ≤ fuse))) := by simp [World.cell?, hb]
  have z2 : w.frozen? ⟨r, 2, none⟩ = false := by simp [World.frozen?, hb]
  have c3 : w.cell? ⟨r, 3, none⟩ = some (.int .i64 fz) := by simp [World.cell?, hb]
  have z3 : w.frozen? ⟨r, 3, none⟩ = false := by simp [World.frozen?, hb]
  have HH := Lib.hid h
  clear h hb hrest
  go_enter Try.func56, Try.ntmps56
  go_wp2
  go_end0
  have o1 := onlyD_set w r 2 (.bool (decide (0 ≤ n)))
  have o2 := onlyD_set (w.setCell ⟨r, 2, none⟩ (.bool (decide (0 ≤ n)))) r 3 (.int .i64 n)
  refine ⟨rfl, o1.trans o2, HH.out.set (fun fv fz hb hz => ⟨n, ?_, fun h => by omega⟩) (o1.trans o2)⟩
  have b1 := heap_setCell_same w r 2 _ _ (.bool (decide (0 ≤ n))) hb
  have b2 := heap_setCell_same _ r 3 _ _ (.int .i64 n) b1
  rw [b2]
  have : decide (0 ≤ max n (-1)) = decide (0 ≤ n) := by rw [decide_eq_decide]; omega
  rw [this]; rfl
theorem refOperation (w : World) (T : Nat → Prop) (r : Nat) (R : List RFile) (room fuse : Int) (down : Bool) (h : RefAt w T r R room fuse down) (hf : -1 ≤ fuse) (hf2 : fuse < 2 ^ 63) :
    Calls Try.prog 74 #[.pointer (some ⟨r, 0, none⟩)] w fun e w' => e = .returned (.int .i64 (opE fuse)) ∧ OnlyD r w w' ∧ RefAt w' T r R room (opF fuse) (opD fuse down) := by
  obtain ⟨fv, fz, hb, hz, hrest⟩ := h.blk
  have c2 : w.cell? ⟨r, 2, none⟩ = some (.bool (decide (0 ≤ fuse))) := by simp [World.cell?, hb]
  have c3 : w.cell? ⟨r, 3, none⟩ = some (.int .i64 fz) := by simp [World.cell?, hb]
  have z3 : w.frozen? ⟨r, 3, none⟩ = false := by simp [World.frozen?, hb]
  have c4 : w.cell? ⟨r, 4, none⟩ = some (.bool down) := by simp [World.cell?, hb]
  have z4 : w.frozen? ⟨r, 4, none⟩ = false := by simp [World.frozen?, hb]
  have HH := Lib.hid h
  have HB := Lib.hid hb
  clear h hb hrest
  by_cases hfz : fuse = 0
  · subst hfz
    obtain rfl := hz (Int.le_refl _)
    go_enter Try.func74, Try.ntmps74
    go_wp2
    go_ret
    refine ⟨rfl, onlyD_set w r 4 _, HH.out.set (fun fv fz hb hz => ⟨fz, ?_, hz⟩) (onlyD_set w r 4 _)⟩
    rw [heap_setCell_same _ _ _ _ _ _ hb]; rfl
  · by_cases hp : 0 < fuse
    · obtain rfl := hz (by omega)
      have hd : decide (0 ≤ fz) = true := by simp; omega
      rw [hd] at c2
      have hne : (fz == 0) = false := by simp; omega
      have h1 : opE fz = 0 := by simp [opE, hfz]
      have h2 : opF fz = fz - 1 := by simp [opF, hfz]; omega
      have h3 : opD fz down = down := by simp [opD, hfz]
      rw [h1, h2, h3]
      clear h1 h2 h3 hd
      go_enter Try.func74, Try.ntmps74
      go_wp2
      go_ret
      refine ⟨rfl, onlyD_set w r 3 _, HH.out.set (fun fv fz' hb hz => ⟨fz - 1, ?_, fun _ => rfl⟩) (onlyD_set w r 3 _)⟩
      rw [heap_setCell_same _ _ _ _ _ _ hb]
      have : decide (0 ≤ fz - 1) = decide (0 ≤ fz) := by rw [decide_eq_decide]; omega
      rw [this]; rfl
    · have hm : fuse = -1 := by omega
      subst hm
      have hd : decide ((0 : Int) ≤ -1) = false := rfl
      rw [hd] at c2
      clear hd
      go_enter Try.func74, Try.ntmps74
      go_wp2
      go_ret
      exact ⟨rfl, onlyD_refl _ _, HH.out⟩
end Go.Proofs.Ytjkgcpbgacdgaaa
