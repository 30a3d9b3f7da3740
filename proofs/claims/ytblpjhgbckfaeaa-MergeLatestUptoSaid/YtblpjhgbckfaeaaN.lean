/- slices.SortFunc and slices.SortedFunc at the keys of Merge's table, slices.Sorted at its times: a new row that holds them in order. Condition: fewer than 10^12 keys. -/
import Derived.Test.YtblpjhgbckfaeaaO
import Derived.Shelf.SortM.SortNone
import Derived.Test.YtblpjhgbckfaeaaShelf
import Derived.Sort.OwnSorted
import Derived.Shelf.SlSortCmp.NoneTotal
import Derived.Outline
namespace Go.Proofs.Ytblpjhgbckfaeaa
open Go.RowKit Go.Sort Go.Maps Go.Shelf
theorem ltOf_kLt (x y : Ky) : ltOf cmpK x y = kLt x.1 x.2 y.1 y.2 := cmpK_lt x y
theorem swoK : SWO (ltOf cmpK) where
  irrefl x := by rw [ltOf_kLt]; exact kLt_irrefl _ _
  trans x y z h1 h2 := by rw [ltOf_kLt] at *; exact kLt_trans h1 h2
  ntrans x y z h1 h2 := by rw [ltOf_kLt] at *; exact kLt_ntrans h1 h2
theorem cmpLaysK (blk off size : Nat) (w : World) : CmpLays Try.prog 13 #[] encP 2 cmpK blk off size w := fun _ _ _ _ x y => closure13 x y _
theorem flatK_flat (ks : List Ky) : (flatK encP 2 ks.toArray).toList = ks.flatMap encP := by
  apply List.ext_getElem?
  intro j
  by_cases hj : j < ks.length * 2
  · rw [flat_get ks j hj]
    have h1 := get_flatK encP 2 ks.toArray j (by simpa using hj)
    have h2 : j < (flatK encP 2 ks.toArray).toList.length := by simpa using hj
    rw [List.getElem?_eq_getElem h2, Array.getElem_toList]
    rw [getElem!_pos _ _ (by simpa using hj)] at h1
    rw [h1, List.getElem?_eq_getElem (by rw [encP_len]; omega), getElem!_pos _ _ (by rw [encP_len]; omega)]
  · rw [List.getElem?_eq_none (by simp; omega), List.getElem?_eq_none (by rw [flat_len]; omega)]
theorem holdsK_of_block {w : World} {g : Nat} {cur : Array Value} {e : TypeId} {ks : List Ky} (hb : w.heap[g]? = some (.cells cur e (0, 0))) (ht : cur.toList.take (ks.length * 2) = ks.flatMap encP) : HoldsK encP 2 w g 0 ks.toArray := by
  intro j hj
  have hj' : j < ks.length * 2 := by simpa using hj
  refine ⟨?_, by simp [World.frozen?, hb]⟩
  have h1 : (cur.toList.take (ks.length * 2))[j]? = (flatK encP 2 ks.toArray).toList[j]? := by rw [ht, flatK_flat]
  rw [List.getElem?_take_of_lt hj', Array.getElem?_toList, Array.getElem?_toList] at h1
  simp only [World.cell?, hb, Nat.zero_add]
  simp only [Option.isSome_none, Bool.false_eq_true, if_false]
  rw [h1, Array.getElem?_eq_getElem hj, getElem!_pos (flatK encP 2 ks.toArray) j hj]
  rfl
theorem heap_sortedK {w : World} {g n : Nat} {os : Array Obj} {cur : Array Value} {e : TypeId} {fr : Nat × Nat} (d : Array Ky) (hb : w.heap[g]? = some (.cells cur e fr)) :
    (sortWorldK encP 2 w g 0 n d os).heap[g]? = some (.cells (putCells id 0 (flatK encP 2 d) cur) e fr) := by
  have hg : g < w.heap.size := (Array.getElem?_eq_some_iff.1 hb).1
  unfold sortWorldK putRowK
  rw [heap_grow_old _ _ (by simpa using hg)]
  simp [putRow, mapBlock, Sort.ahead, Array.getElem?_modify, hb, onCells]
theorem grownBy_sortedK {w : World} {g n : Nat} {os : Array Obj} (d : Array Ky) : w.grownBy (sortWorldK encP 2 w g 0 n d os) (some g) := by
  unfold sortWorldK putRowK
  refine ⟨rfl, rfl, rfl, by simp, fun k hk hne => ?_⟩
  rw [heap_grow_old _ _ (by simpa using hk)]
  have : g ≠ k := fun e => hne (by rw [e])
  simp [putRow, mapBlock, Sort.ahead, Array.getElem?_modify, this]
theorem take_putK (cur : Array Value) (F : Array Value) (h : F.size ≤ cur.size) : (putCells id 0 F cur).toList.take F.size = F.toList := by
  apply List.ext_getElem?
  intro j
  by_cases hj : j < F.size
  · rw [List.getElem?_take_of_lt hj, Array.getElem?_toList]
    simp [putCells, hj, show j < cur.size by omega]
  · rw [List.getElem?_take_eq_none (by omega), List.getElem?_eq_none (by simp; omega)]
theorem ownsRow_sortedK {w : World} {base g cap n : Nat} {e : TypeId} {os : Array Obj} {cur : Array Value} {ks ts : List Ky} (hl : ts.length = ks.length) (hbase : base ≤ g) (hb : w.heap[g]? = some (.cells cur e (0, 0)))
    (h1 : ks.length ≤ cap) (h2 : cap ≤ maxLen) (h3 : cur.size = cap * 2) :
    (sortWorldK encP 2 w g 0 n ts.toArray os).ownsRow base e 2 (.slice (some ⟨g, 0, none⟩) ks.length cap) ks.length (ts.flatMap encP) :=
  ⟨by rw [flat_len, hl], .inr ⟨g, cap, _, rfl, hbase, heap_sortedK _ hb, h1, h2, by simp [putCells, h3], by
    rw [← flatK_flat, ← hl]
    have := take_putK cur (flatK encP 2 ts.toArray) (by simp; omega)
    rwa [size_flatK, List.size_toArray] at this⟩⟩
theorem sortedKs_of {L : List TE} {ts : List Ky} (h : KeysOf L ts) (hs : SortedIn (ltOf cmpK) 0 ts.length ts.toArray) : SortedKs ts := by
  unfold SortedKs
  rw [List.pairwise_iff_getElem]
  intro i j hi hj hij
  have h1 := hs i j (Nat.zero_le _) hij hj
  rw [ltOf_kLt, getElem!_pos ts.toArray i (by simpa using hi), getElem!_pos ts.toArray j (by simpa using hj)] at h1
  simp only [List.getElem_toArray] at h1
  cases h2 : kEq ts[j].1 ts[j].2 ts[i].1 ts[i].2 with
  | false => exact kLt_tri h1 h2
  | true =>
    obtain ⟨e1, e2⟩ := kEq_iff.1 h2
    have h3 := (List.pairwise_iff_getElem.1 h.nodup) i j hi hj hij
    exact absurd (Prod.ext e1.symm e2.symm) h3
/-- slices.SortFunc at the keys. -/
theorem sortKeys {L : List TE} {w : World} {base g cap : Nat} {cur : Array Value} {ks : List Ky} (hK : KeysOf L ks) (hbase : base ≤ g) (hb : w.heap[g]? = some (.cells cur 47 (0, 0)))
    (h1 : ks.length ≤ cap) (h2 : cap ≤ maxLen) (h3 : cur.size = cap * 2) (ht : cur.toList.take (ks.length * 2) = ks.flatMap encP) (hsz : ks.length < 4611686018427387904) :
    Calls Try.prog 20 #[.slice (some ⟨g, 0, none⟩) ks.length cap, .func (.func 13) #[] #[]] w fun e w' => e = .returned (.tuple #[]) ∧ ∃ ts : List Ky, KeysOf L ts ∧ SortedKs ts ∧ ts.length = ks.length ∧ w'.ownsRow base 47 2 (.slice (some ⟨g, 0, none⟩) ks.length cap) ks.length (ts.flatMap encP) ∧ w.grownBy w' (some g) := by
  have hg : g < w.heap.size := (Array.getElem?_eq_some_iff.1 hb).1
  have hcon := AnyQ.slices_SortFunc Try.sortK 2 Try.isAgg47 Try.sizeOf47 encP encP_len (fun x v hv => by simp [encP] at hv; rcases hv with rfl | rfl <;> rfl) cmpK swoK 13 #[] g 0 cap ks.toArray w (enters_of Try.func13 (by kernel_rfl) rfl) (cmpLaysK g 0 _ w) (holdsK_of_block hb ht) hg (by simpa using hsz)
  change Calls Try.prog 20 _ _ _ at hcon
  rw [List.size_toArray] at hcon
  refine hcon.mono ?_
  rintro e w' ⟨rfl, d, n, os, ⟨hz, _, hp⟩, hs, rfl⟩
  obtain ⟨ts, rfl⟩ : ∃ ts : List Ky, d = ts.toArray := ⟨d.toList, by simp⟩
  have hlen : ts.length = ks.length := by simpa using hz
  have hperm : ts.Perm ks := by
    have e1 : (ts.toArray.extract 0 ks.length).toList = ts := by rw [← hlen]; simp
    have e2 : (ks.toArray.extract 0 ks.length).toList = ks := by simp
    rwa [e1, e2] at hp
  have hK' := keysOf_perm hK hperm
  exact ⟨rfl, ts, hK', sortedKs_of hK' (by rw [hlen]; exact hs), hlen, ownsRow_sortedK hlen hbase hb h1 h2 h3, grownBy_sortedK _⟩
theorem sortNone (w : World) : Calls Try.prog 20 #[.slice none 0 0, .func (.func 13) #[] #[]] w fun e w' => e = .returned (.tuple #[]) ∧ w' = w := AnyF.slices_SortFunc_none Try.sortK none 0 _ w
set_option maxRecDepth 100000 in
theorem sortedKeys (w : World) (Bm b : Nat) (L : List TE) (hBm : Bm < w.heap.size) (hm : w.cell? ⟨Bm, 0, none⟩ = some (.map (some b))) (hown : w.ownsMap Try.prog 47 mapE b L.length (.map (L.map entT))) (hL : ∀ x ∈ L, x.se.size ≤ maxLen ∧ x.fi.size ≤ maxLen) (hmax : L.length ≤ 1000000000000) :
    Calls Try.prog 11 #[.func (.func 21) #[] #[.pointer (some ⟨Bm, 0, none⟩)], .func (.func 13) #[] #[]] w fun e w' => ∃ (v : Value) (ks : List Ky), e = .returned v ∧ KeysOf L ks ∧ SortedKs ks ∧ w'.ownsRow w.heap.size 47 2 v ks.length (ks.flatMap encP) ∧ Below w.heap.size w w' := by
  have hz : Maps.size (DataW.map (L.map entT) : DataW Unit) = L.length := by simp [Maps.size]
  have hcon := collectKeys w Bm b _ _ hBm hm hown (by rw [hz]; exact Nat.le_trans hmax (by decide)) (by rw [hz]; omega)
  clear hown hm hBm hz
  have HL := Lib.hid hL
  clear hL
  go_enter Try.func11, Try.ntmps11
  go_wp2_with fail
  refine hcon.mono ?_
  rintro e w1 ⟨v, ss, rfl, hA, hr, hb⟩
  obtain ⟨ks, hK, hc, hl⟩ := keysOf_all HL.out hA
  rw [hc, hl] at hr
  have HB := Lib.hid hb
  have HK := Lib.hid hK
  clear hcon hA hc hl hb hK
  have HR := Lib.hid hr
  rcases hr.2 with ⟨rfl, h0⟩ | ⟨g, cap, cur, rfl, h1, h2, h3, h4, h5, h6⟩
  · have H0 := Lib.hid h0
    clear hr h0
    go_wp2_with fail
    refine (sortNone _).mono ?_
    rintro e w2 ⟨rfl, rfl⟩
    go_wp2_with fail
    go_ret
    have hks : ks = [] := List.eq_nil_of_length_eq_zero H0.out
    exact ⟨_, ks, rfl, HK.out, by rw [hks]; exact List.Pairwise.nil, HR.out, HB.out⟩
  · have hs := sortKeys HK.out h1 h2 h3 h4 h5 h6 (by have := HK.out.len; omega)
    have H1 := Lib.hid h1
    clear hr h1 h2 h3 h4 h5 h6
    go_wp2_with fail
    refine hs.mono ?_
    rintro e w2 ⟨rfl, ts, hk2, hs2, hl2, hr2, hg2⟩
    have HK2 := Lib.hid hk2
    have HS2 := Lib.hid hs2
    have HL2 := Lib.hid hl2
    have HR2 := Lib.hid hr2
    have HG2 := Lib.hid hg2
    clear hs hk2 hs2 hl2 hr2 hg2
    go_wp2_with fail
    go_ret
    exact ⟨_, ts, rfl, HK2.out, HS2.out, by rw [HL2.out]; exact HR2.out, HB.out.grown HG2.out HB.out.size (fun j hj => by cases hj; exact H1.out)⟩
/-- slices.Sort's two contracts at the times. -/
theorem sortsI (m : Nat) : AnyZI.SortsIn Try.prog Try.sortedI_ren Fence.wide m :=
  ⟨fun blk off cap ss W hH hblk hsz => callsIn_wide.2 (AnyM.slices_Sort_int Try.sortI blk off cap ss W hH hblk hsz),
   fun p cap W => callsIn_wide.2 (AnyM.slices_Sort_int_none Try.sortI p cap W)⟩
theorem keys17 (b : Nat) (w : World) : Calls Try.prog 17 #[.map (some b)] w fun e w' => e = .returned (.func (.func 25) #[] #[.pointer (some ⟨w.heap.size, 0, none⟩)]) ∧ w.alloc (.cells #[.map (some b)] 48) = w' :=
  (callsIn_wide.1 (AnyZI.keys_in Try.keysI Fence.wide 5 trivial rfl (some b) w)).mono fun _ _ ⟨h1, h2⟩ => ⟨h1, h2.symm⟩
theorem intKeys_times (P : List (Int × PV)) : intKeys (DataW.map (P.map entP) : DataW Unit) = P.map (·.1) := by
  simp [intKeys, entP]
  exact fun _ _ _ => rfl
theorem sorted_times {P : List (Int × PV)} {ss : List Int} (hr : P.Pairwise fun a b => a.1 < b.1) (hp : ss.Perm (P.map (·.1))) : ss.mergeSort (fun x y => decide (x ≤ y)) = P.map (·.1) := by
  have h1 : (ss.mergeSort (fun x y => decide (x ≤ y))).Pairwise fun a b => decide (a ≤ b) = true :=
    List.pairwise_mergeSort (fun a b c h1 h2 => by simp at *; omega) (fun a b => by simp; omega) ss
  have h2 : (P.map (·.1)).Pairwise fun a b => decide (a ≤ b) = true := by
    rw [List.pairwise_map]
    exact hr.imp fun h => by simp; omega
  refine List.Perm.eq_of_pairwise (le := fun a b => decide (a ≤ b) = true) (fun a b _ _ h3 h4 => ?_) h1 h2 ((List.mergeSort_perm _ _).trans hp)
  simp at h3 h4
  omega
set_option maxHeartbeats 1000000 in
theorem sortedTimes (b : Nat) (P : List (Int × PV)) (w : World) (hown : w.ownsMap Try.prog 2 valE b P.length (.map (P.map entP))) (hn : P.length ≤ 1000000000000) :
    Calls Try.prog 16 #[.func (.func 25) #[] #[.pointer (some ⟨w.heap.size, 0, none⟩)]] (w.alloc (.cells #[.map (some b)] 48)) fun e w' => ∃ v, e = .returned v ∧ w'.ownsRow (w.heap.size + 1) 2 1 v P.length (P.map fun p => Value.int .i64 p.1) ∧ Below w.heap.size w w' := by
  have hbl := hown.lt
  have hris := inner_rising hown
  have hsz : Maps.size (DataW.map (P.map entP) : DataW Unit) = P.length := by simp [Maps.size]
  have hseq : SeqGives Fence.wide 2 Try.prog 25 #[.pointer (some ⟨w.heap.size, 0, none⟩)] encZ (fun ss => ss.Perm (intKeys (DataW.map (P.map entP) : DataW Unit))) (Maps.size (DataW.map (P.map entP) : DataW Unit)) (w.alloc (.cells #[.map (some b)] 48)) :=
    AnyZI.keys_gives (ρ := Try.keysI_ren) { Try.keysI with } Fence.wide _ trivial rfl (by omega) w.heap.size b P.length _ _ (by simp) (by simp) (by
      obtain ⟨es, clock, hb, Ft, hs, hD⟩ := hown
      exact ⟨es, clock, (Below.heap_alloc _ _ b hbl).trans hb, Ft, hs, hD⟩)
  have cS := AnyZI.sorted_in Try.sortedI Fence.wide 5 trivial trivial trivial trivial rfl (by omega) (sortsI _) (enters_of Try.func24 (by kernel_rfl) rfl) 25 #[.pointer (some ⟨w.heap.size, 0, none⟩)] trivial (enters_of Try.func25 (by kernel_rfl) rfl) _ _ (by rw [hsz]; unfold maxLen; omega) (by rw [hsz]; omega) _ hseq
  change CallsIn _ _ Try.prog 16 _ _ _ at cS
  refine (callsIn_wide.1 cS).mono ?_
  rintro e w' ⟨v, ss, rfl, hp, hrow, _, hb⟩
  rw [intKeys_times] at hp
  have hl : ss.length = P.length := by rw [hp.length_eq]; simp
  rw [sorted_times hris hp, hl, List.map_map] at hrow
  refine ⟨v, rfl, ?_, ((Below.refl _ _).alloc (Nat.le_refl _) _).trans (hb.mono (by simp))⟩
  have e1 : (w.alloc (.cells #[.map (some b)] 48)).heap.size = w.heap.size + 1 := by simp
  rw [e1] at hrow
  exact hrow

end Go.Proofs.Ytblpjhgbckfaeaa
