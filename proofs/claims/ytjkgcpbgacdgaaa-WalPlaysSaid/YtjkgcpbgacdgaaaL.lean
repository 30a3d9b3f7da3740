/- The names of a disk's files, in their order. Condition: fewer files than 2^43. -/
import Derived.Test.YtjkgcpbgacdgaaaK
namespace Go.Proofs.Ytjkgcpbgacdgaaa
open Go.RowKit Go.Sort
def nameL (L : List Ent) : List (List UInt8) := L.map fun e => e.name.data.toList
theorem before_lt : ∀ a b : List UInt8, bytesBefore a b = Op.bytesLess a b
  | [], [] => rfl
  | [], _ :: _ => rfl
  | _ :: _, [] => rfl
  | a :: r, b :: s => by simp only [bytesBefore, Op.bytesLess, before_lt r s]
theorem DiskAt.rising {w : World} {S : Nat → Prop} {d m : Nat} {L : List Ent} {room fuse : Int} {down : Bool} (h : DiskAt w S d m L room fuse down) : (nameL L).Pairwise fun a b => Op.bytesLess a b = true := by
  obtain ⟨es, c, _, F, _, hD⟩ := h.map
  have hr := Maps.fit_rising (Maps.string_keyed Try.underlying9) F
  injection hD with hD
  rw [← hD] at hr
  have hp := WideShapes.rising_pairwise _ hr
  rw [List.pairwise_map] at hp
  unfold nameL
  rw [List.pairwise_map]
  refine hp.imp ?_
  intro a b hab
  rw [← before_lt]
  exact hab
theorem strKeys_names (L : List Ent) : strKeys (DataW.map (L.map ent)) = nameL L := by
  simp [strKeys, nameL, ent, key, strOf]
theorem sorted_names {L : List Ent} {ss : List (List UInt8)} (hr : (nameL L).Pairwise fun a b => Op.bytesLess a b = true) (hp : ss.Perm (nameL L)) : ss.mergeSort (fun x y => decide (x ≤ y)) = nameL L := by
  have h1 : (ss.mergeSort (fun x y => decide (x ≤ y))).Pairwise fun a b => decide (a ≤ b) = true :=
    List.pairwise_mergeSort (fun a b c h1 h2 => by simp at *; exact List.le_trans h1 h2) (fun a b => by simp; exact List.le_total a b) ss
  have h2 : (nameL L).Pairwise fun a b => decide (a ≤ b) = true := hr.imp (fun h => by
    rw [bytesLess_eq] at h
    simp at h ⊢
    exact List.le_of_lt h)
  refine List.Perm.eq_of_pairwise (le := fun a b => decide (a ≤ b) = true) (fun a b _ _ h3 h4 => ?_) h1 h2 ((List.mergeSort_perm _ _).trans hp)
  simp at h3 h4
  exact List.le_antisymm h3 h4
theorem sortedKeys (w : World) (S : Nat → Prop) (d m : Nat) (L : List Ent) (room fuse : Int) (down : Bool) (h : DiskAt w S d m L room fuse down) (hn : L.length ≤ 8000000000000) :
    Calls Try.prog 48 #[.func (.func 73) #[] #[.pointer (some ⟨w.heap.size, 0, none⟩)]] (w.alloc (.cells #[.map (some m)] 76)) fun e w' => ∃ v, e = .returned v ∧ w'.ownsRow (w.heap.size + 1) 9 1 v L.length ((nameL L).map encStr) ∧ Below w.heap.size w w' := by
  have hsz : Maps.size (DataW.map (L.map ent)) = L.length := by simp [Maps.size]
  refine (callsIn_wide.1 (Try.slices_Sorted_keys_48_49 m L.length _ ptrE w h.map (by rw [hsz]; unfold maxLen; omega) (by rw [hsz]; omega))).mono ?_
  rintro e w' ⟨v, ss, rfl, hp, hrow, _, hb⟩
  rw [strKeys_names] at hp
  have hl : ss.length = L.length := by rw [hp.length_eq]; simp [nameL]
  rw [sorted_names h.rising hp, hl] at hrow
  exact ⟨v, rfl, by simpa using hrow, ((Below.refl _ _).alloc (Nat.le_refl _) _).trans (hb.mono (by simp))⟩
theorem keys49 (m : Nat) (w : World) : Calls Try.prog 49 #[.map (some m)] w fun e w' => e = .returned (.func (.func 73) #[] #[.pointer (some ⟨w.heap.size, 0, none⟩)]) ∧ w.alloc (.cells #[.map (some m)] 76) = w' :=
  (callsIn_wide.1 (Try.maps_Keys_49 (some m) w)).mono fun _ _ ⟨h1, h2⟩ => ⟨h1, h2.symm⟩
def listN (L : List Ent) (down : Bool) : List (List UInt8) := if down then [] else nameL L
theorem list (w : World) (S : Nat → Prop) (d m : Nat) (L : List Ent) (room fuse : Int) (down : Bool) (h : DiskAt w S d m L room fuse down) (hn : L.length ≤ 8000000000000) :
    Calls Try.prog 27 #[.pointer (some ⟨d, 0, none⟩)] w fun e w' => ∃ v, e = .returned v ∧ w'.ownsRow (w.heap.size + 1) 9 1 v (listN L down).length ((listN L down).map encStr) ∧ Below w.heap.size w w' := by
  have hb := h.blk
  have c0 : w.cell? ⟨d, 0, none⟩ = some (.map (some m)) := by simp [World.cell?, hb]
  have HH := Lib.hid h
  clear h hb
  go_enter Try.func27, Try.ntmps27
  go_wp2_with fail
  refine (down28 w S d m L room fuse down HH.out).mono ?_
  rintro e w1 ⟨rfl, rfl⟩
  cases down with
  | true =>
    go_wp2_with fail
    go_ret
    exact ⟨_, rfl, World.ownsRow_nil _ _ _ _, Below.refl _ _⟩
  | false =>
    go_wp2_with fail
    with_reducible refine (keys49 m _).mono ?_
    rintro e w1 ⟨rfl, rfl⟩
    go_wp2_with fail
    refine (sortedKeys _ S d m L room fuse false HH.out hn).mono ?_
    rintro e w1 ⟨v, rfl, hrow, hb⟩
    have HR := Lib.hid hrow
    have HB := Lib.hid hb
    clear hrow hb
    go_wp2_with fail
    go_ret
    refine ⟨_, rfl, ?_, HB.out⟩
    have := HR.out
    simpa [listN, nameL] using this
end Go.Proofs.Ytjkgcpbgacdgaaa
