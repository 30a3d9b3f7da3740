/- The disk's leaves: is it down, one operation more, a file by its name. Condition: the disk lies there whole. -/
import Derived.Test.YtjkgcpbgacdgaaaB
import Derived.Test.YtjkgcpbgacdgaaaName
namespace Go.Proofs.Ytjkgcpbgacdgaaa
open Go.RowKit
def look (L : List Ent) (s : ByteArray) : Option Ent := L.find? fun e => e.name.data.toList == s.data.toList
def ptrOf : Option Ent → Value
  | some e => .pointer (some ⟨e.f, 0, none⟩)
  | none => .pointer none
theorem atKey_look (L : List Ent) (s : ByteArray) : (DataW.map (L.map ent)).atKey (key s) .nil = match look L s with | some e => .lit (.int .u64 e.f) | none => .nil := by
  unfold DataW.atKey look
  simp only [List.find?_map]
  have : ((fun p : Lit × DataW Unit => p.1.sameKey (key s)) ∘ ent) = fun e => e.name.data.toList == s.data.toList := by
    funext e; rfl
  rw [this]
  cases List.find? (fun e : Ent => e.name.data.toList == s.data.toList) L <;> rfl
theorem look_mem {L : List Ent} {s : ByteArray} {e : Ent} (h : look L s = some e) : e ∈ L := List.mem_of_find?_eq_some h
theorem look_name {L : List Ent} {s : ByteArray} {e : Ent} (h : look L s = some e) : e.name = s := by
  have := List.find?_some h
  simp at this
  exact ByteArray.ext this
theorem zero80 (w : World) : (zeroValue 80).run Try.prog w = .ok (.pointer none) w := by kernel_rfl
theorem DiskAt.lookup {w : World} {S : Nat → Prop} {d m : Nat} {L : List Ent} {room fuse : Int} {down : Bool} (h : DiskAt w S d m L room fuse down) (s : ByteArray) (hs : s.size ≤ maxLen) :
    (Instr.lookup 76 (.map (some m)) (.string s) false).run Try.prog w = .ok (ptrOf (look L s)) w := by
  obtain ⟨v, ps, hr, hv⟩ := h.map.lookup (Maps.string_keyed Try.underlying9) Try.underlying76 (zero80 w) (zd := .nil) (zp := []) rfl (key := .string s) (kl := key s) (WideMaps.keyOf_string_mk Try.underlying9 hs)
  rw [atKey_look] at hv
  rw [hr]
  cases hl : look L s with
  | none =>
    rw [hl] at hv
    rw [ptrE_nil hv]; rfl
  | some e =>
    rw [hl] at hv
    rw [ptrE_lit hv]; rfl
theorem down28 (w : World) (S : Nat → Prop) (d m : Nat) (L : List Ent) (room fuse : Int) (down : Bool) (h : DiskAt w S d m L room fuse down) :
    Calls Try.prog 28 #[.pointer (some ⟨d, 0, none⟩)] w fun e w' => e = .returned (.bool down) ∧ w' = w := by
  have hb := h.blk
  have c3 : w.cell? ⟨d, 3, none⟩ = some (.bool down) := by simp [World.cell?, hb]
  clear hb h
  go_enter Try.func28, Try.ntmps28
  go_wp2_with fail
  go_ret
  exact ⟨rfl, rfl⟩
def opE (fuse : Int) : Int := if fuse = 0 then 8 else 0
def opF (fuse : Int) : Int := if fuse = 0 then 0 else max (fuse - 1) (-1)
def opD (fuse : Int) (down : Bool) : Bool := if fuse = 0 then true else down
/-- The disk's block alone has turned. -/
def OnlyD (d : Nat) (w w' : World) : Prop := w'.os = w.os ∧ w'.tape = w.tape ∧ w'.output = w.output ∧ w'.heap.size = w.heap.size ∧ ∀ k, k ≠ d → w'.heap[k]? = w.heap[k]?
theorem OnlyD.turns {S : Nat → Prop} {d : Nat} {w w' : World} (h : OnlyD d w w') (hd : S d) : Turns S w w' :=
  ⟨h.1, h.2.1, h.2.2.1, by rw [h.2.2.2.1]; exact Nat.le_refl _, fun k _ hn => h.2.2.2.2 k (fun e => hn (e ▸ hd))⟩
theorem onlyD_set (w : World) (d i : Nat) (u : Value) : OnlyD d w (w.setCell ⟨d, i, none⟩ u) :=
  ⟨rfl, rfl, rfl, by simp [World.setCell], fun k hk => Below.heap_setCell w _ u k hk⟩
theorem operation (w : World) (S : Nat → Prop) (d m : Nat) (L : List Ent) (room fuse : Int) (down : Bool) (h : DiskAt w S d m L room fuse down) (hf : -1 ≤ fuse) (hf2 : fuse < 2 ^ 63) :
    Calls Try.prog 40 #[.pointer (some ⟨d, 0, none⟩)] w fun e w' => e = .returned (.int .i64 (opE fuse)) ∧ OnlyD d w w' ∧ DiskAt w' S d m L room (opF fuse) (opD fuse down) := by
  have hb := h.blk
  have c3 : w.cell? ⟨d, 3, none⟩ = some (.bool down) := by simp [World.cell?, hb]
  have c2 : w.cell? ⟨d, 2, none⟩ = some (.int .i64 fuse) := by simp [World.cell?, hb]
  have f3 : w.frozen? ⟨d, 3, none⟩ = false := by simp [World.frozen?, hb]
  have f2 : w.frozen? ⟨d, 2, none⟩ = false := by simp [World.frozen?, hb]
  have HB := Lib.hid hb
  have HH := Lib.hid h
  clear hb h
  go_enter Try.func40, Try.ntmps40
  by_cases h0 : fuse = 0
  · subst h0
    go_wp2_with fail
    go_ret
    exact ⟨rfl, onlyD_set _ _ _ _, HH.out.set (by rw [heap_setCell_same _ _ _ _ _ _ HB.out]; rfl) (onlyD_set _ _ _ _).2.2.2.2⟩
  · have h0b : (fuse == 0) = false := by simp [h0]
    by_cases h1 : -1 ≤ fuse - 1
    · go_wp2_with fail
      go_ret
      exact ⟨by simp [opE, h0], onlyD_set _ _ _ _, HH.out.set (by rw [heap_setCell_same _ _ _ _ _ _ HB.out]; simp [opF, opD, h0]; omega) (onlyD_set _ _ _ _).2.2.2.2⟩
    · go_wp2_with fail
      go_ret
      exact ⟨by simp [opE, h0], onlyD_set _ _ _ _, HH.out.set (by rw [heap_setCell_same _ _ _ _ _ _ HB.out]; simp [opF, opD, h0]; omega) (onlyD_set _ _ _ _).2.2.2.2⟩
def getE (L : List Ent) (down : Bool) (s : ByteArray) : Option Ent × Int := if down then (none, 8) else match look L s with | some e => (some e, 0) | none => (none, 6)
theorem get (w : World) (S : Nat → Prop) (d m : Nat) (L : List Ent) (room fuse : Int) (down : Bool) (s : ByteArray) (hs : s.size ≤ maxLen) (h : DiskAt w S d m L room fuse down) :
    Calls Try.prog 41 #[.pointer (some ⟨d, 0, none⟩), .string s] w fun e w' => e = .returned (.tuple #[ptrOf (getE L down s).1, .int .i64 (getE L down s).2]) ∧ w' = w := by
  have hb := h.blk
  have c0 : w.cell? ⟨d, 0, none⟩ = some (.map (some m)) := by simp [World.cell?, hb]
  have hl := h.lookup s hs
  have HH := Lib.hid h
  clear hb h
  go_enter Try.func41, Try.ntmps41
  go_wp2_with fail
  refine (down28 w S d m L room fuse down HH.out).mono ?_
  rintro e w1 ⟨rfl, rfl⟩
  cases down with
  | true =>
    go_wp2_with fail
    go_ret2
    exact ⟨rfl, rfl⟩
  | false =>
    cases hk : look L s with
    | none =>
      have HK := Lib.hid hk
      rw [hk] at hl
      simp only [ptrOf] at hl
      clear hk
      go_wp2_with fail
      go_ret2
      exact ⟨by simp [getE, HK.out, ptrOf], rfl⟩
    | some e =>
      have HK := Lib.hid hk
      rw [hk] at hl
      simp only [ptrOf] at hl
      clear hk
      go_wp2_with fail
      go_ret2
      exact ⟨by simp [getE, HK.out, ptrOf], rfl⟩
end Go.Proofs.Ytjkgcpbgacdgaaa
