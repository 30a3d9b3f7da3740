/- The keys of a map at string keys, in order: slices.Sorted(maps.Keys(m)) at the five types of maps. Condition: fewer than 2^42 keys. -/
import Derived.Test.YtobcpafalfdpkaaM
import Derived.Test.YtobcpafalfdpkaaShelf
namespace Go.Proofs.Ytobcpafalfdpkaa
open Go.RowKit Go.Sort
theorem encStr_ba (s : BA) : encStr s.data.toList = .string s := by
  unfold encStr
  simp
theorem strKeys_keys {α : Type} (K : VK α) (L : List (BA × α)) : strKeys (DataW.map (L.map (ent K))) = L.map fun p => p.1.data.toList := by
  simp [strKeys, ent, strOf]
theorem sorted_keys {α : Type} {L : List (BA × α)} {ss : List (List UInt8)} (hr : RisingK L) (hp : ss.Perm (L.map fun p => p.1.data.toList)) : ss.mergeSort (fun x y => decide (x ≤ y)) = L.map fun p => p.1.data.toList := by
  have h1 : (ss.mergeSort (fun x y => decide (x ≤ y))).Pairwise fun a b => decide (a ≤ b) = true :=
    List.pairwise_mergeSort (fun a b c h1 h2 => by simp at *; exact List.le_trans h1 h2) (fun a b => by simp; exact List.le_total a b) ss
  have h2 : (L.map fun p => p.1.data.toList).Pairwise fun a b => decide (a ≤ b) = true := by
    rw [List.pairwise_map]
    refine hr.imp fun h => ?_
    unfold sLt at h
    rw [bytesLess_eq] at h
    simp at h ⊢
    exact List.le_of_lt h
  refine List.Perm.eq_of_pairwise (le := fun a b => decide (a ≤ b) = true) (fun a b _ _ h3 h4 => ?_) h1 h2 ((List.mergeSort_perm _ _).trans hp)
  simp at h3 h4
  exact List.le_antisymm h3 h4
theorem keys35 (mb : Option Nat) (w : World) : Calls Try.prog 35 #[.map mb] w fun e w' => e = .returned (.func (.func 60) #[] #[.pointer (some ⟨w.heap.size, 0, none⟩)]) ∧ w.alloc (.cells #[.map mb] 75) = w' :=
  (callsIn_wide.1 (Try.maps_Keys_35 mb w)).mono fun _ _ ⟨h1, h2⟩ => ⟨h1, h2.symm⟩
theorem sorted35 {α : Type} {w : World} {K : VK α} {b : Nat} {L : List (BA × α)} (h : MapS w K b L) (hn : L.length ≤ 4000000000000) :
    Calls Try.prog 34 #[.func (.func 60) #[] #[.pointer (some ⟨w.heap.size, 0, none⟩)]] (w.alloc (.cells #[.map (some b)] 75)) fun e w' => ∃ v, e = .returned v ∧ w'.ownsRow (w.heap.size + 1) 9 1 v L.length (L.map fun p => Value.string p.1) ∧ Below w.heap.size w w' := by
  have hsz : Maps.size (DataW.map (L.map (ent K))) = L.length := by simp [Maps.size]
  refine (callsIn_wide.1 (Try.slices_Sorted_keys_34_35 b L.length _ K.R w h.own (by rw [hsz]; unfold maxLen; omega) (by rw [hsz]; omega))).mono ?_
  rintro e w' ⟨v, ss, rfl, hp, hrow, _, hb⟩
  rw [strKeys_keys] at hp
  have hl : ss.length = L.length := by rw [hp.length_eq]; simp
  rw [sorted_keys h.rising hp, hl, List.map_map] at hrow
  have e1 : L.map (encStr ∘ fun p => p.1.data.toList) = L.map fun p => Value.string p.1 := List.map_congr_left fun p _ => encStr_ba p.1
  rw [e1] at hrow
  exact ⟨v, rfl, by simpa using hrow, ((Below.refl _ _).alloc (Nat.le_refl _) _).trans (hb.mono (by simp))⟩
theorem sortedNil35 (w : World) :
    Calls Try.prog 34 #[.func (.func 60) #[] #[.pointer (some ⟨w.heap.size, 0, none⟩)]] (w.alloc (.cells #[.map none] 75)) fun e w' => e = .returned (.slice none 0 0) ∧ Below w.heap.size w w' := by
  refine (callsIn_wide.1 (Try.slices_Sorted_keys_nil_34_35 w)).mono ?_
  rintro e w' ⟨v, ss, rfl, hs, hrow, hv, hb⟩
  rw [hv.2 hs]
  exact ⟨rfl, ((Below.refl _ _).alloc (Nat.le_refl _) _).trans (hb.mono (by simp))⟩
theorem keys37 (mb : Option Nat) (w : World) : Calls Try.prog 37 #[.map mb] w fun e w' => e = .returned (.func (.func 63) #[] #[.pointer (some ⟨w.heap.size, 0, none⟩)]) ∧ w.alloc (.cells #[.map mb] 74) = w' :=
  (callsIn_wide.1 (Try.maps_Keys_37 mb w)).mono fun _ _ ⟨h1, h2⟩ => ⟨h1, h2.symm⟩
theorem sorted37 {α : Type} {w : World} {K : VK α} {b : Nat} {L : List (BA × α)} (h : MapS w K b L) (hn : L.length ≤ 4000000000000) :
    Calls Try.prog 34 #[.func (.func 63) #[] #[.pointer (some ⟨w.heap.size, 0, none⟩)]] (w.alloc (.cells #[.map (some b)] 74)) fun e w' => ∃ v, e = .returned v ∧ w'.ownsRow (w.heap.size + 1) 9 1 v L.length (L.map fun p => Value.string p.1) ∧ Below w.heap.size w w' := by
  have hsz : Maps.size (DataW.map (L.map (ent K))) = L.length := by simp [Maps.size]
  refine (callsIn_wide.1 (Try.slices_Sorted_keys_34_37 b L.length _ K.R w h.own (by rw [hsz]; unfold maxLen; omega) (by rw [hsz]; omega))).mono ?_
  rintro e w' ⟨v, ss, rfl, hp, hrow, _, hb⟩
  rw [strKeys_keys] at hp
  have hl : ss.length = L.length := by rw [hp.length_eq]; simp
  rw [sorted_keys h.rising hp, hl, List.map_map] at hrow
  have e1 : L.map (encStr ∘ fun p => p.1.data.toList) = L.map fun p => Value.string p.1 := List.map_congr_left fun p _ => encStr_ba p.1
  rw [e1] at hrow
  exact ⟨v, rfl, by simpa using hrow, ((Below.refl _ _).alloc (Nat.le_refl _) _).trans (hb.mono (by simp))⟩
theorem sortedNil37 (w : World) :
    Calls Try.prog 34 #[.func (.func 63) #[] #[.pointer (some ⟨w.heap.size, 0, none⟩)]] (w.alloc (.cells #[.map none] 74)) fun e w' => e = .returned (.slice none 0 0) ∧ Below w.heap.size w w' := by
  refine (callsIn_wide.1 (Try.slices_Sorted_keys_nil_34_37 w)).mono ?_
  rintro e w' ⟨v, ss, rfl, hs, hrow, hv, hb⟩
  rw [hv.2 hs]
  exact ⟨rfl, ((Below.refl _ _).alloc (Nat.le_refl _) _).trans (hb.mono (by simp))⟩
theorem keys38 (mb : Option Nat) (w : World) : Calls Try.prog 38 #[.map mb] w fun e w' => e = .returned (.func (.func 64) #[] #[.pointer (some ⟨w.heap.size, 0, none⟩)]) ∧ w.alloc (.cells #[.map mb] 68) = w' :=
  (callsIn_wide.1 (Try.maps_Keys_38 mb w)).mono fun _ _ ⟨h1, h2⟩ => ⟨h1, h2.symm⟩
theorem sorted38 {α : Type} {w : World} {K : VK α} {b : Nat} {L : List (BA × α)} (h : MapS w K b L) (hn : L.length ≤ 4000000000000) :
    Calls Try.prog 34 #[.func (.func 64) #[] #[.pointer (some ⟨w.heap.size, 0, none⟩)]] (w.alloc (.cells #[.map (some b)] 68)) fun e w' => ∃ v, e = .returned v ∧ w'.ownsRow (w.heap.size + 1) 9 1 v L.length (L.map fun p => Value.string p.1) ∧ Below w.heap.size w w' := by
  have hsz : Maps.size (DataW.map (L.map (ent K))) = L.length := by simp [Maps.size]
  refine (callsIn_wide.1 (Try.slices_Sorted_keys_34_38 b L.length _ K.R w h.own (by rw [hsz]; unfold maxLen; omega) (by rw [hsz]; omega))).mono ?_
  rintro e w' ⟨v, ss, rfl, hp, hrow, _, hb⟩
  rw [strKeys_keys] at hp
  have hl : ss.length = L.length := by rw [hp.length_eq]; simp
  rw [sorted_keys h.rising hp, hl, List.map_map] at hrow
  have e1 : L.map (encStr ∘ fun p => p.1.data.toList) = L.map fun p => Value.string p.1 := List.map_congr_left fun p _ => encStr_ba p.1
  rw [e1] at hrow
  exact ⟨v, rfl, by simpa using hrow, ((Below.refl _ _).alloc (Nat.le_refl _) _).trans (hb.mono (by simp))⟩
theorem sortedNil38 (w : World) :
    Calls Try.prog 34 #[.func (.func 64) #[] #[.pointer (some ⟨w.heap.size, 0, none⟩)]] (w.alloc (.cells #[.map none] 68)) fun e w' => e = .returned (.slice none 0 0) ∧ Below w.heap.size w w' := by
  refine (callsIn_wide.1 (Try.slices_Sorted_keys_nil_34_38 w)).mono ?_
  rintro e w' ⟨v, ss, rfl, hs, hrow, hv, hb⟩
  rw [hv.2 hs]
  exact ⟨rfl, ((Below.refl _ _).alloc (Nat.le_refl _) _).trans (hb.mono (by simp))⟩
theorem keys52 (mb : Option Nat) (w : World) : Calls Try.prog 52 #[.map mb] w fun e w' => e = .returned (.func (.func 67) #[] #[.pointer (some ⟨w.heap.size, 0, none⟩)]) ∧ w.alloc (.cells #[.map mb] 69) = w' :=
  (callsIn_wide.1 (Try.maps_Keys_52 mb w)).mono fun _ _ ⟨h1, h2⟩ => ⟨h1, h2.symm⟩
theorem sorted52 {α : Type} {w : World} {K : VK α} {b : Nat} {L : List (BA × α)} (h : MapS w K b L) (hn : L.length ≤ 4000000000000) :
    Calls Try.prog 34 #[.func (.func 67) #[] #[.pointer (some ⟨w.heap.size, 0, none⟩)]] (w.alloc (.cells #[.map (some b)] 69)) fun e w' => ∃ v, e = .returned v ∧ w'.ownsRow (w.heap.size + 1) 9 1 v L.length (L.map fun p => Value.string p.1) ∧ Below w.heap.size w w' := by
  have hsz : Maps.size (DataW.map (L.map (ent K))) = L.length := by simp [Maps.size]
  refine (callsIn_wide.1 (Try.slices_Sorted_keys_34_52 b L.length _ K.R w h.own (by rw [hsz]; unfold maxLen; omega) (by rw [hsz]; omega))).mono ?_
  rintro e w' ⟨v, ss, rfl, hp, hrow, _, hb⟩
  rw [strKeys_keys] at hp
  have hl : ss.length = L.length := by rw [hp.length_eq]; simp
  rw [sorted_keys h.rising hp, hl, List.map_map] at hrow
  have e1 : L.map (encStr ∘ fun p => p.1.data.toList) = L.map fun p => Value.string p.1 := List.map_congr_left fun p _ => encStr_ba p.1
  rw [e1] at hrow
  exact ⟨v, rfl, by simpa using hrow, ((Below.refl _ _).alloc (Nat.le_refl _) _).trans (hb.mono (by simp))⟩
theorem sortedNil52 (w : World) :
    Calls Try.prog 34 #[.func (.func 67) #[] #[.pointer (some ⟨w.heap.size, 0, none⟩)]] (w.alloc (.cells #[.map none] 69)) fun e w' => e = .returned (.slice none 0 0) ∧ Below w.heap.size w w' := by
  refine (callsIn_wide.1 (Try.slices_Sorted_keys_nil_34_52 w)).mono ?_
  rintro e w' ⟨v, ss, rfl, hs, hrow, hv, hb⟩
  rw [hv.2 hs]
  exact ⟨rfl, ((Below.refl _ _).alloc (Nat.le_refl _) _).trans (hb.mono (by simp))⟩
theorem keys53 (mb : Option Nat) (w : World) : Calls Try.prog 53 #[.map mb] w fun e w' => e = .returned (.func (.func 68) #[] #[.pointer (some ⟨w.heap.size, 0, none⟩)]) ∧ w.alloc (.cells #[.map mb] 70) = w' :=
  (callsIn_wide.1 (Try.maps_Keys_53 mb w)).mono fun _ _ ⟨h1, h2⟩ => ⟨h1, h2.symm⟩
theorem sorted53 {α : Type} {w : World} {K : VK α} {b : Nat} {L : List (BA × α)} (h : MapS w K b L) (hn : L.length ≤ 4000000000000) :
    Calls Try.prog 34 #[.func (.func 68) #[] #[.pointer (some ⟨w.heap.size, 0, none⟩)]] (w.alloc (.cells #[.map (some b)] 70)) fun e w' => ∃ v, e = .returned v ∧ w'.ownsRow (w.heap.size + 1) 9 1 v L.length (L.map fun p => Value.string p.1) ∧ Below w.heap.size w w' := by
  have hsz : Maps.size (DataW.map (L.map (ent K))) = L.length := by simp [Maps.size]
  refine (callsIn_wide.1 (Try.slices_Sorted_keys_34_53 b L.length _ K.R w h.own (by rw [hsz]; unfold maxLen; omega) (by rw [hsz]; omega))).mono ?_
  rintro e w' ⟨v, ss, rfl, hp, hrow, _, hb⟩
  rw [strKeys_keys] at hp
  have hl : ss.length = L.length := by rw [hp.length_eq]; simp
  rw [sorted_keys h.rising hp, hl, List.map_map] at hrow
  have e1 : L.map (encStr ∘ fun p => p.1.data.toList) = L.map fun p => Value.string p.1 := List.map_congr_left fun p _ => encStr_ba p.1
  rw [e1] at hrow
  exact ⟨v, rfl, by simpa using hrow, ((Below.refl _ _).alloc (Nat.le_refl _) _).trans (hb.mono (by simp))⟩
theorem sortedNil53 (w : World) :
    Calls Try.prog 34 #[.func (.func 68) #[] #[.pointer (some ⟨w.heap.size, 0, none⟩)]] (w.alloc (.cells #[.map none] 70)) fun e w' => e = .returned (.slice none 0 0) ∧ Below w.heap.size w w' := by
  refine (callsIn_wide.1 (Try.slices_Sorted_keys_nil_34_53 w)).mono ?_
  rintro e w' ⟨v, ss, rfl, hs, hrow, hv, hb⟩
  rw [hv.2 hs]
  exact ⟨rfl, ((Below.refl _ _).alloc (Nat.le_refl _) _).trans (hb.mono (by simp))⟩
end Go.Proofs.Ytobcpafalfdpkaa
