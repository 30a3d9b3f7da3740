/- slices.SortFunc at the keys: the row holds the keys in order; nothing else has turned. No condition. -/
import Derived.Test.YtfhdaihladgchaaAJ
import Derived.Test.YtfhdaihladgchaaShelf
import Derived.Sort.OwnSorted
namespace Go.Proofs.Ytfhdaihladgchaa
open Go.RowKit Go.Sort Go.Maps Go.Shelf
theorem ltOf_kLt (x y : Ky) : ltOf cmpK x y = kLt x.1 x.2 y.1 y.2 := cmpK_lt x y
theorem kLt_ntrans {a b c d e f : ByteArray} (h1 : kLt a b c d = false) (h2 : kLt c d e f = false) : kLt a b e f = false := by
  cases h : kLt a b e f with
  | false => rfl
  | true =>
    cases h3 : kEq a b c d with
    | true =>
      obtain ⟨e1, e2⟩ := kEq_iff.1 h3
      rw [← e1, ← e2, h] at h2; cases h2
    | false => rw [kLt_trans (kLt_tri h1 h3) h] at h2; cases h2
theorem swoK : SWO (ltOf cmpK) where
  irrefl x := by rw [ltOf_kLt]; exact kLt_irrefl _ _
  trans x y z h1 h2 := by rw [ltOf_kLt] at *; exact kLt_trans h1 h2
  ntrans x y z h1 h2 := by rw [ltOf_kLt] at *; exact kLt_ntrans h1 h2
theorem encP_len (x : Ky) : (encP x).length = 2 := rfl
theorem cmpLaysK (blk off size : Nat) (w : World) : CmpLays Try.prog 33 #[] encP 2 cmpK blk off size w := fun _ _ _ _ x y => closure33 x y _
instance : Inhabited Ky := ⟨(⟨#[]⟩, ⟨#[]⟩)⟩
theorem flat_get : ∀ (ks : List Ky) (j : Nat), j < ks.length * 2 → (ks.flatMap encP)[j]? = (encP (ks.toArray)[j / 2]!)[j % 2]?
  | [], j, h => by simp at h
  | k :: r, j, h => by
    rw [List.flatMap_cons]
    match j, h with
    | 0, _ => rfl
    | 1, _ => rfl
    | j + 2, h =>
      rw [List.getElem?_append_right (by rw [encP_len]; omega), encP_len, show j + 2 - 2 = j by omega, flat_get r j (by simp at h; omega), show (j + 2) / 2 = j / 2 + 1 by omega, show (j + 2) % 2 = j % 2 by omega]
      simp
theorem flat_len (ks : List Ky) : (ks.flatMap encP).length = ks.length * 2 := by
  induction ks with
  | nil => rfl
  | cons k r ih => rw [List.flatMap_cons, List.length_append, ih, encP_len, List.length_cons]; omega
theorem flatK_flat (ks : List Ky) : (flatK encP 2 ks.toArray).toList = ks.flatMap encP := by
  apply List.ext_getElem?
  intro j
  by_cases hj : j < ks.length * 2
  · rw [flat_get ks j hj]
    have h1 := get_flatK encP 2 ks.toArray j (by simpa using hj)
    have h2 : j < (flatK encP 2 ks.toArray).toList.length := by simpa using hj
    rw [List.getElem?_eq_getElem h2, Array.getElem_toList]
    rw [getElem!_pos _ _ (by simpa using hj)] at h1
    rw [h1, List.getElem?_eq_getElem (by rw [encP_len]; omega), getElem!_pos _ _ (by rw [encP_len]; omega)]
  · rw [List.getElem?_eq_none (by simp; omega), List.getElem?_eq_none (by rw [flat_len]; omega)]
theorem holdsK_of_block {w : World} {g : Nat} {cur : Array Value} {e : TypeId} {ks : List Ky} (hb : w.heap[g]? = some (.cells cur e (0, 0))) (ht : cur.toList.take (ks.length * 2) = ks.flatMap encP) : HoldsK encP 2 w g 0 ks.toArray := by
  intro j hj
  have hj' : j < ks.length * 2 := by simpa using hj
  refine ⟨?_, by simp [World.frozen?, hb]⟩
  have h1 : (cur.toList.take (ks.length * 2))[j]? = (flatK encP 2 ks.toArray).toList[j]? := by rw [ht, flatK_flat]
  rw [List.getElem?_take_of_lt hj', Array.getElem?_toList, Array.getElem?_toList] at h1
  simp only [World.cell?, hb, Nat.zero_add]
  simp only [Option.isSome_none, Bool.false_eq_true, if_false]
  rw [h1, Array.getElem?_eq_getElem hj, getElem!_pos (flatK encP 2 ks.toArray) j hj]
  rfl
theorem heap_sortedK {w : World} {g n : Nat} {os : Array Obj} {cur : Array Value} {e : TypeId} {fr : Nat × Nat} (d : Array Ky) (hb : w.heap[g]? = some (.cells cur e fr)) :
    (sortWorldK encP 2 w g 0 n d os).heap[g]? = some (.cells (putCells id 0 (flatK encP 2 d) cur) e fr) := by
  have hg : g < w.heap.size := (Array.getElem?_eq_some_iff.1 hb).1
  unfold sortWorldK putRowK
  rw [heap_grow_old _ _ (by simpa using hg)]
  simp [putRow, mapBlock, Sort.ahead, Array.getElem?_modify, hb, onCells]
theorem grownBy_sortedK {w : World} {g n : Nat} {os : Array Obj} (d : Array Ky) : w.grownBy (sortWorldK encP 2 w g 0 n d os) (some g) := by
  unfold sortWorldK putRowK
  refine ⟨rfl, rfl, rfl, by simp, fun k hk hne => ?_⟩
  rw [heap_grow_old _ _ (by simpa using hk)]
  have : g ≠ k := fun e => hne (by rw [e])
  simp [putRow, mapBlock, Sort.ahead, Array.getElem?_modify, this]
theorem take_putK (cur : Array Value) (F : Array Value) (h : F.size ≤ cur.size) : (putCells id 0 F cur).toList.take F.size = F.toList := by
  apply List.ext_getElem?
  intro j
  by_cases hj : j < F.size
  · rw [List.getElem?_take_of_lt hj, Array.getElem?_toList]
    simp [putCells, hj, show j < cur.size by omega]
  · rw [List.getElem?_take_eq_none (by omega), List.getElem?_eq_none (by simp; omega)]
theorem ownsRow_sortedK {w : World} {base g cap n : Nat} {e : TypeId} {os : Array Obj} {cur : Array Value} {ks ts : List Ky} (hl : ts.length = ks.length) (hbase : base ≤ g) (hb : w.heap[g]? = some (.cells cur e (0, 0)))
    (h1 : ks.length ≤ cap) (h2 : cap ≤ maxLen) (h3 : cur.size = cap * 2) :
    (sortWorldK encP 2 w g 0 n ts.toArray os).ownsRow base e 2 (.slice (some ⟨g, 0, none⟩) ks.length cap) ks.length (ts.flatMap encP) :=
  ⟨by rw [flat_len, hl], .inr ⟨g, cap, _, rfl, hbase, heap_sortedK _ hb, h1, h2, by simp [putCells, h3], by
    rw [← flatK_flat, ← hl]
    have := take_putK cur (flatK encP 2 ts.toArray) (by simp; omega)
    rwa [size_flatK, List.size_toArray] at this⟩⟩
theorem keysOf_perm {L : List Col} {ks ts : List Ky} (h : KeysOf L ks) (hp : ts.Perm ks) : KeysOf L ts := ⟨hp.nodup_iff.2 h.nodup, fun k => hp.mem_iff.trans (h.mem k)⟩
def SortedKs (ts : List Ky) : Prop := ts.Pairwise fun a b => kLt a.1 a.2 b.1 b.2 = true
theorem sortedKs_of {L : List Col} {ts : List Ky} (h : KeysOf L ts) (hs : SortedIn (ltOf cmpK) 0 ts.length ts.toArray) : SortedKs ts := by
  unfold SortedKs
  rw [List.pairwise_iff_getElem]
  intro i j hi hj hij
  have h1 := hs i j (Nat.zero_le _) hij hj
  rw [ltOf_kLt, getElem!_pos ts.toArray i (by simpa using hi), getElem!_pos ts.toArray j (by simpa using hj)] at h1
  simp only [List.getElem_toArray] at h1
  cases h2 : kEq ts[j].1 ts[j].2 ts[i].1 ts[i].2 with
  | false => exact kLt_tri h1 h2
  | true =>
    obtain ⟨e1, e2⟩ := kEq_iff.1 h2
    have h3 := (List.pairwise_iff_getElem.1 h.nodup) i j hi hj hij
    exact absurd (Prod.ext e1.symm e2.symm) h3
/-- slices.SortFunc at the keys. -/
theorem sortKeys {L : List Col} {w : World} {base g cap : Nat} {cur : Array Value} {ks : List Ky} (hK : KeysOf L ks) (hbase : base ≤ g) (hb : w.heap[g]? = some (.cells cur 63 (0, 0)))
    (h1 : ks.length ≤ cap) (h2 : cap ≤ maxLen) (h3 : cur.size = cap * 2) (ht : cur.toList.take (ks.length * 2) = ks.flatMap encP) (hsz : ks.length < 4611686018427387904) :
    Calls Try.prog 49 #[.slice (some ⟨g, 0, none⟩) ks.length cap, .func (.func 33) #[] #[]] w fun e w' => e = .returned (.tuple #[]) ∧ ∃ ts : List Ky, KeysOf L ts ∧ SortedKs ts ∧ ts.length = ks.length ∧ w'.ownsRow base 63 2 (.slice (some ⟨g, 0, none⟩) ks.length cap) ks.length (ts.flatMap encP) ∧ w.grownBy w' (some g) := by
  have hg : g < w.heap.size := (Array.getElem?_eq_some_iff.1 hb).1
  have hcon := AnyQ.slices_SortFunc Try.sortK 2 Try.isAgg63 Try.sizeOf63 encP encP_len (fun x v hv => by simp [encP] at hv; rcases hv with rfl | rfl <;> rfl) cmpK swoK 33 #[] g 0 cap ks.toArray w (enters_of Try.func33 (by kernel_rfl) rfl) (cmpLaysK g 0 _ w) (holdsK_of_block hb ht) hg (by simpa using hsz)
  change Calls Try.prog 49 _ _ _ at hcon
  rw [List.size_toArray] at hcon
  refine hcon.mono ?_
  rintro e w' ⟨rfl, d, n, os, ⟨hz, _, hp⟩, hs, rfl⟩
  obtain ⟨ts, rfl⟩ : ∃ ts : List Ky, d = ts.toArray := ⟨d.toList, by simp⟩
  have hlen : ts.length = ks.length := by simpa using hz
  have hperm : ts.Perm ks := by
    have e1 : (ts.toArray.extract 0 ks.length).toList = ts := by rw [← hlen]; simp
    have e2 : (ks.toArray.extract 0 ks.length).toList = ks := by simp
    rwa [e1, e2] at hp
  have hK' := keysOf_perm hK hperm
  exact ⟨rfl, ts, hK', sortedKs_of hK' (by rw [hlen]; exact hs), hlen, ownsRow_sortedK hlen hbase hb h1 h2 h3, grownBy_sortedK _⟩
end Go.Proofs.Ytfhdaihladgchaa
