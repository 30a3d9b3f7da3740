/- Several texts of this proof, laid together. Conditions: as each says. -/
import Derived.Test.YtagiddbfhlokcaaGreatDoorTBC
import Derived.Test.YtagiddbfhlokcaaGreatDoorTBD
import Derived.Sort.OwnSorted
import Derived.Sort.Grow
import Derived.OneCell
import Derived.Test.YtagiddbfhlokcaaGreatDoorTAF
import Derived.Maps.AppendAt
/- slices.SortFunc at tags and at fields: the row holds the same, in order; nothing else has turned. No condition. -/
namespace Go.Proofs.YtagiddbfhlokcaaGreatDoor.Ser
open Go.RowKit Go.Sort Go.Shelf
set_option maxRecDepth 100000
set_option linter.unusedSectionVars false
theorem nanS (s : ByteArray) (w : World) : Calls Tryz.prog 88 #[.string s] w fun e w' => e = .returned (.bool false) ∧ w = w' := by
  go_enter Tryz.func88, Tryz.ntmps88
  go_wp2_with fail
  go_ret
  exact ⟨rfl, rfl⟩
def cmpS (a b : ByteArray) : Int := if Op.bytesLess a.toList b.toList then -1 else if Op.bytesLess b.toList a.toList then 1 else 0
theorem compareS (a b : ByteArray) (w : World) : Calls Tryz.prog 46 #[.string a, .string b] w fun e w' => e = .returned (.int .i64 (cmpS a b)) ∧ w = w' := by
  cases h1 : Op.bytesLess a.toList b.toList with
  | true =>
    have H : Hid (cmpS a b = -1) := Lib.hid (by unfold cmpS; rw [h1]; rfl)
    go_enter Tryz.func46, Tryz.ntmps46
    go_wp2_with fail
    refine (nanS a _).mono ?_
    rintro e w' ⟨rfl, rfl⟩
    go_wp2_with fail
    refine (nanS b _).mono ?_
    rintro e w' ⟨rfl, rfl⟩
    go_wp2_with fail
    go_ret
    exact ⟨by rw [H.out]; rfl, rfl⟩
  | false =>
    cases h2 : Op.bytesLess b.toList a.toList with
    | true =>
      have H : Hid (cmpS a b = 1) := Lib.hid (by unfold cmpS; rw [h1, h2]; rfl)
      have h3 : (a.toList == b.toList) = false := by
        rw [beq_eq_false_iff_ne]
        intro e
        rw [e, bytesLess_eq, decide_eq_true_eq] at h2
        exact List.lt_irrefl _ h2
      go_enter Tryz.func46, Tryz.ntmps46
      go_wp2_with fail
      refine (nanS a _).mono ?_
      rintro e w' ⟨rfl, rfl⟩
      go_wp2_with fail
      refine (nanS b _).mono ?_
      rintro e w' ⟨rfl, rfl⟩
      go_wp2_with fail
      go_ret
      exact ⟨by rw [H.out]; rfl, rfl⟩
    | false =>
      have H : Hid (cmpS a b = 0) := Lib.hid (by unfold cmpS; rw [h1, h2]; rfl)
      have h3 : (a.toList == b.toList) = true := by
        rw [beq_iff_eq]
        rw [bytesLess_eq, decide_eq_false_iff_not] at h1 h2
        exact lt_tri _ _ h1 h2
      go_enter Tryz.func46, Tryz.ntmps46
      go_wp2_with fail
      refine (nanS a _).mono ?_
      rintro e w' ⟨rfl, rfl⟩
      go_wp2_with fail
      refine (nanS b _).mono ?_
      rintro e w' ⟨rfl, rfl⟩
      go_wp2_with fail
      go_ret
      exact ⟨by rw [H.out]; rfl, rfl⟩
theorem cmpS_lt (a b : ByteArray) : (cmpS a b < 0) ↔ a.toList < b.toList := by
  unfold cmpS
  rw [bytesLess_eq, bytesLess_eq]
  by_cases h : a.toList < b.toList
  · simp [h]
  · by_cases h2 : b.toList < a.toList <;> simp [h, h2]
def encT (p : Tg) : List Value := [.string p.1, .string p.2]
def encF (p : Fd) : List Value := [.string p.1, .int .i64 p.2.1, .int .u64 p.2.2.1, .string p.2.2.2]
theorem encT_len (x : Tg) : (encT x).length = 2 := rfl
theorem encF_len (x : Fd) : (encF x).length = 4 := rfl
/-- What the closures say: the keys compared. -/
def cmpT (x y : Tg) : Int := cmpS x.1 y.1
def cmpF (x y : Fd) : Int := cmpS x.1 y.1
theorem key_list (s : ByteArray) : s.toList = s.data.toList := by rw [ByteArray.toList_eq]
theorem swoT : SWO (ltOf cmpT) := by
  have h : ∀ x y : Tg, ltOf cmpT x y = decide (x.1.toList < y.1.toList) := fun x y => by
    unfold ltOf cmpT
    rw [Bool.eq_iff_iff, decide_eq_true_eq, decide_eq_true_eq, cmpS_lt]
  refine ⟨fun x => ?_, fun x y z h1 h2 => ?_, fun x y z h1 h2 => ?_⟩
  · rw [h]; exact decide_eq_false (List.lt_irrefl _)
  · rw [h, decide_eq_true_eq] at *; exact List.lt_trans h1 h2
  · rw [h, decide_eq_false_iff_not] at *; exact nlt_trans h2 h1
theorem swoF : SWO (ltOf cmpF) := by
  have h : ∀ x y : Fd, ltOf cmpF x y = decide (x.1.toList < y.1.toList) := fun x y => by
    unfold ltOf cmpF
    rw [Bool.eq_iff_iff, decide_eq_true_eq, decide_eq_true_eq, cmpS_lt]
  refine ⟨fun x => ?_, fun x y z h1 h2 => ?_, fun x y z h1 h2 => ?_⟩
  · rw [h]; exact decide_eq_false (List.lt_irrefl _)
  · rw [h, decide_eq_true_eq] at *; exact List.lt_trans h1 h2
  · rw [h, decide_eq_false_iff_not] at *; exact nlt_trans h2 h1
theorem closure45 (x y : Tg) (W : World) : Calls Tryz.prog 45 #[.agg #[.string x.1, .string x.2], .agg #[.string y.1, .string y.2]] W fun e w' => e = .returned (.int .i64 (cmpT x y)) ∧ ∃ q os', w' = grow (W.drewN q) os' := by
  obtain ⟨a, b⟩ := x
  obtain ⟨c, d⟩ := y
  have HG : Hid (∃ q' os', (W.alloc (.cells #[.string a, .string b] 82)).alloc (.cells #[.string c, .string d] 82) = grow (W.drewN q') os') := Lib.hid ⟨0, _, by rw [alloc_eq_grow, alloc_eq_grow, World.drewN_zero, grow_grow]⟩
  have MC := Lib.hid (fun w => compareS a c w)
  unfold cmpT
  go_enter Tryz.func45, Tryz.ntmps45
  go_wp2_with fail
  refine (MC.out _).mono ?_
  rintro e w' ⟨rfl, rfl⟩
  go_wp2_with fail
  go_ret
  exact ⟨rfl, HG.out⟩
theorem closure48 (x y : Fd) (W : World) : Calls Tryz.prog 48 #[.agg #[.string x.1, .int .i64 x.2.1, .int .u64 x.2.2.1, .string x.2.2.2], .agg #[.string y.1, .int .i64 y.2.1, .int .u64 y.2.2.1, .string y.2.2.2]] W fun e w' => e = .returned (.int .i64 (cmpF x y)) ∧ ∃ q os', w' = grow (W.drewN q) os' := by
  obtain ⟨a, b1, b2, b3⟩ := x
  obtain ⟨c, d1, d2, d3⟩ := y
  have HG : Hid (∃ q' os', (W.alloc (.cells #[.string a, .int .i64 b1, .int .u64 b2, .string b3] 64)).alloc (.cells #[.string c, .int .i64 d1, .int .u64 d2, .string d3] 64) = grow (W.drewN q') os') := Lib.hid ⟨0, _, by rw [alloc_eq_grow, alloc_eq_grow, World.drewN_zero, grow_grow]⟩
  have MC := Lib.hid (fun w => compareS a c w)
  unfold cmpF
  go_enter Tryz.func48, Tryz.ntmps48
  go_wp2_with fail
  refine (MC.out _).mono ?_
  rintro e w' ⟨rfl, rfl⟩
  go_wp2_with fail
  go_ret
  exact ⟨rfl, HG.out⟩
section
variable {α : Type} [Inhabited α] {enc : α → List Value} {k : Nat}
theorem flat_len (hk : ∀ x, (enc x).length = k) (ks : List α) : (ks.flatMap enc).length = ks.length * k := by
  induction ks with
  | nil => simp
  | cons x r ih => rw [List.flatMap_cons, List.length_append, ih, hk, List.length_cons, Nat.succ_mul]; omega
theorem flat_get (hk : ∀ x, (enc x).length = k) (h0 : 0 < k) : ∀ (ks : List α) (j : Nat), j < ks.length * k → (ks.flatMap enc)[j]? = (enc (ks.toArray)[j / k]!)[j % k]?
  | [], j, h => by simp at h
  | x :: r, j, h => by
    rw [List.flatMap_cons]
    by_cases hj : j < k
    · rw [List.getElem?_append_left (by rw [hk]; exact hj), Nat.div_eq_of_lt hj, Nat.mod_eq_of_lt hj]
      rfl
    · rw [List.getElem?_append_right (by rw [hk]; omega), hk]
      have h1 : j - k < r.length * k := by
        rw [List.length_cons, Nat.succ_mul] at h
        omega
      rw [flat_get hk h0 r (j - k) h1]
      have h2 : j / k = (j - k) / k + 1 := by
        rw [Nat.div_eq_sub_div h0 (by omega)]
      have h3 : j % k = (j - k) % k := by
        rw [Nat.mod_eq_sub_mod (by omega)]
      rw [h2, h3]
      simp
theorem flatK_flat (hk : ∀ x, (enc x).length = k) (h0 : 0 < k) (ks : List α) : (flatK enc k ks.toArray).toList = ks.flatMap enc := by
  apply List.ext_getElem?
  intro j
  by_cases hj : j < ks.length * k
  · rw [flat_get hk h0 ks j hj]
    have h1 := get_flatK enc k ks.toArray j (by simpa using hj)
    have h2 : j < (flatK enc k ks.toArray).toList.length := by simpa using hj
    rw [List.getElem?_eq_getElem h2, Array.getElem_toList]
    rw [getElem!_pos _ _ (by simpa using hj)] at h1
    have h4 : j % k < k := Nat.mod_lt _ h0
    rw [h1, List.getElem?_eq_getElem (by rw [hk]; omega), getElem!_pos _ _ (by rw [hk]; omega)]
  · rw [List.getElem?_eq_none (by simp; omega), List.getElem?_eq_none (by rw [flat_len hk]; omega)]
theorem holdsK_of_block (hk : ∀ x, (enc x).length = k) (h0 : 0 < k) {w : World} {g : Nat} {cur : Array Value} {e : TypeId} {ks : List α} (hb : w.heap[g]? = some (.cells cur e (0, 0))) (ht : cur.toList.take (ks.length * k) = ks.flatMap enc) : HoldsK enc k w g 0 ks.toArray := by
  intro j hj
  have hj' : j < ks.length * k := by simpa using hj
  refine ⟨?_, by simp [World.frozen?, hb]⟩
  have h1 : (cur.toList.take (ks.length * k))[j]? = (flatK enc k ks.toArray).toList[j]? := by rw [ht, flatK_flat hk h0]
  rw [List.getElem?_take_of_lt hj', Array.getElem?_toList, Array.getElem?_toList] at h1
  simp only [World.cell?, hb, Nat.zero_add]
  simp only [Option.isSome_none, Bool.false_eq_true, if_false]
  rw [h1, Array.getElem?_eq_getElem hj, getElem!_pos (flatK enc k ks.toArray) j hj]
  rfl
theorem heap_sortedK {w : World} {g n : Nat} {os : Array Obj} {cur : Array Value} {e : TypeId} {fr : Nat × Nat} (d : Array α) (hb : w.heap[g]? = some (.cells cur e fr)) :
    (sortWorldK enc k w g 0 n d os).heap[g]? = some (.cells (putCells id 0 (flatK enc k d) cur) e fr) := by
  have hg : g < w.heap.size := (Array.getElem?_eq_some_iff.1 hb).1
  unfold sortWorldK putRowK
  rw [heap_grow_old _ _ (by simpa using hg)]
  simp [putRow, mapBlock, Sort.ahead, Array.getElem?_modify, hb, onCells]
theorem grownBy_sortedK {w : World} {g n : Nat} {os : Array Obj} (d : Array α) : w.grownBy (sortWorldK enc k w g 0 n d os) (some g) := by
  unfold sortWorldK putRowK
  refine ⟨rfl, rfl, rfl, by simp, fun k hk hne => ?_⟩
  rw [heap_grow_old _ _ (by simpa using hk)]
  have : g ≠ k := fun e => hne (by rw [e])
  simp [putRow, mapBlock, Sort.ahead, Array.getElem?_modify, this]
theorem take_putK (cur : Array Value) (F : Array Value) (h : F.size ≤ cur.size) : (putCells id 0 F cur).toList.take F.size = F.toList := by
  apply List.ext_getElem?
  intro j
  by_cases hj : j < F.size
  · rw [List.getElem?_take_of_lt hj, Array.getElem?_toList]
    simp [putCells, hj, show j < cur.size by omega]
  · rw [List.getElem?_take_eq_none (by omega), List.getElem?_eq_none (by simp; omega)]
theorem ownsRow_sortedK (hk : ∀ x, (enc x).length = k) (h0 : 0 < k) {w : World} {base g cap n : Nat} {e : TypeId} {os : Array Obj} {cur : Array Value} {ks ts : List α} (hl : ts.length = ks.length) (hbase : base ≤ g) (hb : w.heap[g]? = some (.cells cur e (0, 0)))
    (h1 : ks.length ≤ cap) (h2 : cap ≤ maxLen) (h3 : cur.size = cap * k) :
    (sortWorldK enc k w g 0 n ts.toArray os).ownsRow base e k (.slice (some ⟨g, 0, none⟩) ks.length cap) ks.length (ts.flatMap enc) :=
  ⟨by rw [flat_len hk, hl], .inr ⟨g, cap, _, rfl, hbase, heap_sortedK _ hb, h1, h2, by simp [putCells, h3], by
    rw [← flatK_flat hk h0, ← hl]
    have := take_putK cur (flatK enc k ts.toArray) (by
      simp
      rw [h3, hl]
      exact Nat.mul_le_mul_right _ h1)
    rwa [size_flatK, List.size_toArray] at this⟩⟩
end
instance : Inhabited Tg := ⟨(⟨#[]⟩, ⟨#[]⟩)⟩
instance : Inhabited Fd := ⟨(⟨#[]⟩, 0, 0, ⟨#[]⟩)⟩
theorem weak_of {α : Type} [Inhabited α] {cf : α → α → Int} {key : α → List UInt8} (hcf : ∀ x y, ltOf cf x y = decide (key x < key y)) {ts : List α} (hs : SortedIn (ltOf cf) 0 ts.length ts.toArray) : Weak key ts := by
  unfold Weak
  rw [List.pairwise_iff_getElem]
  intro i j hi hj hij
  have h1 := hs i j (Nat.zero_le _) hij hj
  rw [hcf, getElem!_pos ts.toArray i (by simpa using hi), getElem!_pos ts.toArray j (by simpa using hj), decide_eq_false_iff_not] at h1
  simpa using h1
/-- The row turned into order. -/
def Sorted {α : Type} (key : α → List UInt8) (enc : α → List Value) (E : TypeId) (k base : Nat) (v : Value) (L : List α) (w : World) (e : Ending) (w' : World) : Prop :=
  e = .returned (.tuple #[]) ∧ ∃ ts : List α, ts.Perm L ∧ Weak key ts ∧ w'.ownsRow base E k v L.length (ts.flatMap enc) ∧ w.grownBy w' v.ownBlock
theorem ltT (x y : Tg) : ltOf cmpT x y = decide (keyT x < keyT y) := by
  unfold ltOf cmpT keyT
  rw [Bool.eq_iff_iff, decide_eq_true_eq, decide_eq_true_eq, cmpS_lt, key_list, key_list]
theorem ltF (x y : Fd) : ltOf cmpF x y = decide (keyF x < keyF y) := by
  unfold ltOf cmpF keyF
  rw [Bool.eq_iff_iff, decide_eq_true_eq, decide_eq_true_eq, cmpS_lt, key_list, key_list]
theorem sort44 (L : List Tg) (base : Nat) (v : Value) (w : World) (h : w.ownsRow base 82 2 v L.length (L.flatMap encT)) (hsz : L.length < 4611686018427387904) :
    Calls Tryz.prog 44 #[v, .func (.func 45) #[] #[]] w (Sorted keyT encT 82 2 base v L w) := by
  rcases h.2 with ⟨rfl, hx⟩ | ⟨g, cap, cur, rfl, hbase, hb, h1, h2, h3, ht⟩
  · have hL : L = [] := by
      have := flat_len encT_len L
      rw [hx] at this
      simp at this
      exact List.eq_nil_of_length_eq_zero (by omega)
    subst hL
    refine (AnyF.slices_SortFunc_none Tryz.sortT none 0 _ w).mono ?_
    rintro e w' ⟨rfl, rfl⟩
    exact ⟨rfl, [], .refl _, by simp [Weak], World.ownsRow_nil _ _ _ _, rfl, rfl, rfl, Nat.le_refl _, fun _ _ _ => rfl⟩
  · have hg : g < w.heap.size := (Array.getElem?_eq_some_iff.1 hb).1
    have hl : (L.flatMap encT).length = L.length * 2 := flat_len encT_len L
    have hcon := AnyQ.slices_SortFunc Tryz.sortT 2 Tryz.isAgg82 Tryz.sizeOf82 encT encT_len (fun x v hv => by simp [encT] at hv; rcases hv with rfl | rfl <;> rfl) cmpT swoT 45 #[] g 0 cap L.toArray w (enters_of Tryz.func45 (by kernel_rfl) rfl) (fun _ _ _ _ x y => closure45 x y _) (holdsK_of_block encT_len (by omega) hb (by rw [← ht])) hg (by simpa using hsz)
    change Calls Tryz.prog 44 _ _ _ at hcon
    rw [List.size_toArray] at hcon
    refine hcon.mono ?_
    rintro e w' ⟨rfl, d, n, os, ⟨hz, _, hp⟩, hs, rfl⟩
    obtain ⟨ts, rfl⟩ : ∃ ts : List Tg, d = ts.toArray := ⟨d.toList, by simp⟩
    have hlen : ts.length = L.length := by simpa using hz
    have hperm : ts.Perm L := by
      have e1 : (ts.toArray.extract 0 L.length).toList = ts := by rw [← hlen]; simp
      have e2 : (L.toArray.extract 0 L.length).toList = L := by simp
      rwa [e1, e2] at hp
    exact ⟨rfl, ts, hperm, weak_of ltT (by rw [hlen]; exact hs), ownsRow_sortedK encT_len (by omega) hlen hbase hb h1 h2 h3, grownBy_sortedK _⟩
theorem sort47 (L : List Fd) (base : Nat) (v : Value) (w : World) (h : w.ownsRow base 64 4 v L.length (L.flatMap encF)) (hsz : L.length < 4611686018427387904) :
    Calls Tryz.prog 47 #[v, .func (.func 48) #[] #[]] w (Sorted keyF encF 64 4 base v L w) := by
  rcases h.2 with ⟨rfl, hx⟩ | ⟨g, cap, cur, rfl, hbase, hb, h1, h2, h3, ht⟩
  · have hL : L = [] := by
      have := flat_len encF_len L
      rw [hx] at this
      simp at this
      exact List.eq_nil_of_length_eq_zero (by omega)
    subst hL
    refine (AnyF.slices_SortFunc_none Tryz.sortF none 0 _ w).mono ?_
    rintro e w' ⟨rfl, rfl⟩
    exact ⟨rfl, [], .refl _, by simp [Weak], World.ownsRow_nil _ _ _ _, rfl, rfl, rfl, Nat.le_refl _, fun _ _ _ => rfl⟩
  · have hg : g < w.heap.size := (Array.getElem?_eq_some_iff.1 hb).1
    have hl : (L.flatMap encF).length = L.length * 4 := flat_len encF_len L
    have hcon := AnyQ.slices_SortFunc Tryz.sortF 4 Tryz.isAgg64 Tryz.sizeOf64 encF encF_len (fun x v hv => by simp [encF] at hv; rcases hv with rfl | rfl | rfl | rfl <;> rfl) cmpF swoF 48 #[] g 0 cap L.toArray w (enters_of Tryz.func48 (by kernel_rfl) rfl) (fun _ _ _ _ x y => closure48 x y _) (holdsK_of_block encF_len (by omega) hb (by rw [← ht])) hg (by simpa using hsz)
    change Calls Tryz.prog 47 _ _ _ at hcon
    rw [List.size_toArray] at hcon
    refine hcon.mono ?_
    rintro e w' ⟨rfl, d, n, os, ⟨hz, _, hp⟩, hs, rfl⟩
    obtain ⟨ts, rfl⟩ : ∃ ts : List Fd, d = ts.toArray := ⟨d.toList, by simp⟩
    have hlen : ts.length = L.length := by simpa using hz
    have hperm : ts.Perm L := by
      have e1 : (ts.toArray.extract 0 L.length).toList = ts := by rw [← hlen]; simp
      have e2 : (L.toArray.extract 0 L.length).toList = L := by simp
      rwa [e1, e2] at hp
    exact ⟨rfl, ts, hperm, weak_of ltF (by rw [hlen]; exact hs), ownsRow_sortedK encF_len (by omega) hlen hbase hb h1 h2 h3, grownBy_sortedK _⟩
end Go.Proofs.YtagiddbfhlokcaaGreatDoor.Ser
/- Rows of tags and of fields in order: plain law; and as they lie in memory. No condition. -/
namespace Go.Proofs.YtagiddbfhlokcaaGreatDoor.Ser
open Go.RowKit Go.Sort
set_option maxRecDepth 100000
theorem climb (f : Nat → List UInt8) (n : Nat) : (∀ i, i < n → i = 0 ∨ f (i - 1) < f i) ↔ ∀ i j, i < j → j < n → f i < f j := by
  constructor
  · intro h i j hij hj
    induction j with
    | zero => omega
    | succ j ih =>
      have h1 := h (j + 1) hj
      simp at h1
      by_cases he : i = j
      · subst he; exact h1
      · exact List.lt_trans (ih (by omega) (by omega)) h1
  · intro h i hi
    by_cases h0 : i = 0
    · exact .inl h0
    · exact .inr (h (i - 1) i (by omega) hi)
theorem kOf_get {ts : List Tg} {i : Nat} (h : i < ts.length) : kOf ts i = ts[i].1 ∧ vOf ts i = ts[i].2 := by simp [kOf, vOf, List.getD, h]
theorem fE_get {fs : List Fd} {i : Nat} (h : i < fs.length) : fE fs i = fs[i] := by simp [fE, List.getD, h]
theorem steps_iff (ts : List Tg) : (List.range ts.length).all (stepOk (kOf ts) (vOf ts)) = true ↔ (∀ p ∈ ts, nameB p.1.data.toList = true ∧ nameB p.2.data.toList = true) ∧ Rise keyT ts := by
  have h1 : ((List.range ts.length).all (stepOk (kOf ts) (vOf ts)) = true) ↔ (∀ i (h : i < ts.length), nameB ts[i].1.data.toList = true ∧ nameB ts[i].2.data.toList = true) ∧ (∀ i, i < ts.length → i = 0 ∨ (kOf ts (i - 1)).data.toList < (kOf ts i).data.toList) := by
    rw [List.all_eq_true]
    constructor
    · intro h
      refine ⟨fun i hi => ?_, fun i hi => ?_⟩
      · have := h i (by simpa using hi)
        unfold stepOk at this
        rw [(kOf_get hi).1, (kOf_get hi).2] at this
        simp only [Bool.and_eq_true] at this
        exact ⟨this.1, this.2.1⟩
      · have := h i (by simpa using hi)
        unfold stepOk at this
        simp only [Bool.and_eq_true, Bool.or_eq_true, decide_eq_true_eq, bytesLess_eq] at this
        exact this.2.2
    · rintro ⟨h2, h3⟩ i hi
      have hi : i < ts.length := by simpa using hi
      unfold stepOk
      simp only [Bool.and_eq_true, Bool.or_eq_true, decide_eq_true_eq, bytesLess_eq]
      exact ⟨by rw [(kOf_get hi).1]; exact (h2 i hi).1, by rw [(kOf_get hi).2]; exact (h2 i hi).2, h3 i hi⟩
  rw [h1, climb (fun i => (kOf ts i).data.toList)]
  refine and_congr ⟨fun h p hp => ?_, fun h i hi => h _ (List.getElem_mem hi)⟩ ?_
  · obtain ⟨i, hi, rfl⟩ := List.getElem_of_mem hp
    exact h i hi
  · unfold Rise
    rw [List.pairwise_iff_getElem]
    constructor
    · intro h i j hi hj hij
      have := h i j hij hj
      rw [(kOf_get hi).1, (kOf_get hj).1] at this
      exact this
    · intro h i j hij hj
      rw [(kOf_get (show i < ts.length by omega)).1, (kOf_get hj).1]
      exact h i j (by omega) hj hij
theorem fsteps_iff (fs : List Fd) : fformB fs = true ↔ (∀ p ∈ fs, nameB p.1.data.toList = true ∧ formV p.2.1 p.2.2.1 p.2.2.2 = true) ∧ Rise keyF fs := by
  have h1 : (fformB fs = true) ↔ (∀ i (h : i < fs.length), nameB fs[i].1.data.toList = true ∧ formV fs[i].2.1 fs[i].2.2.1 fs[i].2.2.2 = true) ∧ (∀ i, i < fs.length → i = 0 ∨ (fE fs (i - 1)).1.data.toList < (fE fs i).1.data.toList) := by
    unfold fformB
    rw [List.all_eq_true]
    constructor
    · intro h
      refine ⟨fun i hi => ?_, fun i hi => ?_⟩
      · have := h i (by simpa using hi)
        unfold fstep at this
        rw [fE_get hi] at this
        simp only [Bool.and_eq_true] at this
        exact ⟨this.1, this.2.1⟩
      · have := h i (by simpa using hi)
        unfold fstep at this
        simp only [Bool.and_eq_true, Bool.or_eq_true, decide_eq_true_eq, bytesLess_eq] at this
        exact this.2.2
    · rintro ⟨h2, h3⟩ i hi
      have hi : i < fs.length := by simpa using hi
      unfold fstep
      simp only [Bool.and_eq_true, Bool.or_eq_true, decide_eq_true_eq, bytesLess_eq]
      exact ⟨by rw [fE_get hi]; exact (h2 i hi).1, by rw [fE_get hi]; exact (h2 i hi).2, h3 i hi⟩
  rw [h1, climb (fun i => (fE fs i).1.data.toList)]
  refine and_congr ⟨fun h p hp => ?_, fun h i hi => h _ (List.getElem_mem hi)⟩ ?_
  · obtain ⟨i, hi, rfl⟩ := List.getElem_of_mem hp
    exact h i hi
  · unfold Rise
    rw [List.pairwise_iff_getElem]
    constructor
    · intro h i j hi hj hij
      have := h i j hij hj
      rw [fE_get hi, fE_get hj] at this
      exact this
    · intro h i j hij hj
      rw [fE_get (show i < fs.length by omega), fE_get hj]
      exact h i j (by omega) hj hij
/-- Rows of the same, both in order: the one is formed just if the other is, and then they are one. -/
theorem rowOk_of {name : ByteArray} {tags ts : List Tg} {fields fs : List Fd} (ht : ts.Perm tags) (hw : Weak keyT ts) (hf : fs.Perm fields) (hv : Weak keyF fs) :
    rowB name ts.length (kOf ts) (vOf ts) fs = rowOk name (srt keyT tags) (srt keyF fields) ∧ (rowOk name (srt keyT tags) (srt keyF fields) = true → ts = srt keyT tags ∧ fs = srt keyF fields) := by
  have pt : ts.Perm (srt keyT tags) := ht.trans (srt_perm keyT tags).symm
  have pf : fs.Perm (srt keyF fields) := hf.trans (srt_perm keyF fields).symm
  have wt := srt_weak keyT tags
  have wf := srt_weak keyF fields
  have rt : Rise keyT ts ↔ Rise keyT (srt keyT tags) := ⟨fun h => rise_of_weak h wt pt, fun h => rise_of_weak h hw pt.symm⟩
  have rf : Rise keyF fs ↔ Rise keyF (srt keyF fields) := ⟨fun h => rise_of_weak h wf pf, fun h => rise_of_weak h hv pf.symm⟩
  have e1 : (List.range ts.length).all (stepOk (kOf ts) (vOf ts)) = (List.range (srt keyT tags).length).all (stepOk (kOf (srt keyT tags)) (vOf (srt keyT tags))) := by
    rw [Bool.eq_iff_iff, steps_iff, steps_iff, rt]
    exact and_congr ⟨fun h p hp => h p (pt.mem_iff.2 hp), fun h p hp => h p (pt.mem_iff.1 hp)⟩ Iff.rfl
  have e2 : fformB fs = fformB (srt keyF fields) := by
    rw [Bool.eq_iff_iff, fsteps_iff, fsteps_iff, rf]
    exact and_congr ⟨fun h p hp => h p (pf.mem_iff.2 hp), fun h p hp => h p (pf.mem_iff.1 hp)⟩ Iff.rfl
  refine ⟨?_, fun h => ?_⟩
  · unfold rowB rowOk formedB
    rw [e1, e2, pt.length_eq, pf.length_eq]
  · unfold rowOk formedB at h
    simp only [Bool.and_eq_true] at h
    have h1 := (steps_iff _).1 h.2.1.1
    have h2 := (fsteps_iff _).1 h.1
    exact ⟨(rise_eq h1.2 hw pt.symm).symm, (rise_eq h2.2 hv pf.symm).symm⟩
/-! ### In memory -/
theorem encT_get : ∀ (L : List Tg) (i : Nat), i < L.length → (L.flatMap encT)[i * 2]? = some (.string (kOf L i)) ∧ (L.flatMap encT)[i * 2 + 1]? = some (.string (vOf L i))
  | [], i, h => by simp at h
  | p :: L, 0, _ => by simp [encT, kOf, vOf]
  | p :: L, i + 1, h => by
    have ih := encT_get L i (by simpa using h)
    have e1 : kOf (p :: L) (i + 1) = kOf L i := by simp [kOf]
    have e2 : vOf (p :: L) (i + 1) = vOf L i := by simp [vOf]
    rw [List.flatMap_cons, e1, e2, List.getElem?_append_right (by rw [encT_len]; omega), List.getElem?_append_right (by rw [encT_len]; omega)]
    rw [encT_len, show (i + 1) * 2 - 2 = i * 2 by omega, show (i + 1) * 2 + 1 - 2 = i * 2 + 1 by omega]
    exact ih
theorem encF_get : ∀ (L : List Fd) (i : Nat), i < L.length → (L.flatMap encF)[i * 4]? = some (.string (fE L i).1) ∧ (L.flatMap encF)[i * 4 + 1]? = some (.int .i64 (fE L i).2.1) ∧ (L.flatMap encF)[i * 4 + 2]? = some (.int .u64 (fE L i).2.2.1) ∧ (L.flatMap encF)[i * 4 + 3]? = some (.string (fE L i).2.2.2)
  | [], i, h => by simp at h
  | p :: L, 0, _ => by simp [encF, fE]
  | p :: L, i + 1, h => by
    have ih := encF_get L i (by simpa using h)
    have e1 : fE (p :: L) (i + 1) = fE L i := by simp [fE]
    rw [List.flatMap_cons, e1, List.getElem?_append_right (by rw [encF_len]; omega), List.getElem?_append_right (by rw [encF_len]; omega), List.getElem?_append_right (by rw [encF_len]; omega), List.getElem?_append_right (by rw [encF_len]; omega)]
    rw [encF_len, show (i + 1) * 4 - 4 = i * 4 by omega, show (i + 1) * 4 + 1 - 4 = i * 4 + 1 by omega, show (i + 1) * 4 + 2 - 4 = i * 4 + 2 by omega, show (i + 1) * 4 + 3 - 4 = i * 4 + 3 by omega]
    exact ih
abbrev RT (w : World) (base : Nat) (v : Value) (L : List Tg) : Prop := w.ownsRow base 82 2 v L.length (L.flatMap encT)
abbrev RF (w : World) (base : Nat) (v : Value) (L : List Fd) : Prop := w.ownsRow base 64 4 v L.length (L.flatMap encF)
theorem RT.slice {w : World} {base : Nat} {v : Value} {L : List Tg} (h : RT w base v L) : ∃ a cap, v = .slice a L.length cap := by
  rcases h.2 with ⟨rfl, hx⟩ | ⟨g, cap, cur, rfl, _⟩
  · have := flat_len encT_len L
    rw [hx] at this
    simp at this
    exact ⟨none, 0, by rw [show L.length = 0 by omega]⟩
  · exact ⟨_, _, rfl⟩
theorem RF.slice {w : World} {base : Nat} {v : Value} {L : List Fd} (h : RF w base v L) : ∃ a cap, v = .slice a L.length cap := by
  rcases h.2 with ⟨rfl, hx⟩ | ⟨g, cap, cur, rfl, _⟩
  · have := flat_len encF_len L
    rw [hx] at this
    simp at this
    exact ⟨none, 0, by rw [show L.length = 0 by omega]⟩
  · exact ⟨_, _, rfl⟩
theorem RT.at {w : World} {base cap : Nat} {a : Option Addr} {L : List Tg} (h : RT w base (.slice a L.length cap) L) : TagsAt w a L.length (kOf L) (vOf L) := by
  intro i hi
  obtain ⟨g, cap', hv, _, hlt⟩ := h.form (by omega)
  cases hv
  obtain ⟨h1, h2⟩ := encT_get L i hi
  have c1 := h.cellAt (i * 2) (by omega)
  have c2 := h.cellAt (i * 2 + 1) (by omega)
  exact ⟨g, 0, rfl, hlt, by rw [Nat.zero_add, c1, h1], by rw [Nat.zero_add, c2, h2]⟩
theorem RF.at {w : World} {base cap : Nat} {a : Option Addr} {L : List Fd} (h : RF w base (.slice a L.length cap) L) : FieldsAt w a L := by
  intro i hi
  obtain ⟨g, cap', hv, _, hlt⟩ := h.form (by omega)
  cases hv
  obtain ⟨h1, h2, h3, h4⟩ := encF_get L i hi
  have c1 := h.cellAt (i * 4) (by omega)
  have c2 := h.cellAt (i * 4 + 1) (by omega)
  have c3 := h.cellAt (i * 4 + 2) (by omega)
  have c4 := h.cellAt (i * 4 + 3) (by omega)
  exact ⟨g, 0, rfl, hlt, by rw [Nat.zero_add, c1, h1], by rw [Nat.zero_add, c2, h2], by rw [Nat.zero_add, c3, h3], by rw [Nat.zero_add, c4, h4]⟩
theorem own_later {w w' : World} {base e size n : Nat} {v : Value} {xs : List Value} (h : w.ownsRow base e size v n xs) (hb : Below w.heap.size w w') : w'.ownsRow base e size v n xs :=
  h.kept (row := none) ⟨hb.os, hb.tape, hb.output, hb.size, fun i hi _ => hb.block i hi⟩ (by cases v.ownBlock <;> simp)
end Go.Proofs.YtagiddbfhlokcaaGreatDoor.Ser
/- Reading a line by the program: its memory, its states. Conditions: the text's length; the readers of values. -/
namespace Go.Proofs.YtagiddbfhlokcaaGreatDoor.Ser
open Go.RowKit Go.Sort
set_option maxRecDepth 100000
set_option maxRecDepth 100000 in
theorem slots166 (xs : Array Value) (h : xs.size = 166) : xs = #[xs.getD 0 undef, xs.getD 1 undef, xs.getD 2 undef, xs.getD 3 undef, xs.getD 4 undef, xs.getD 5 undef, xs.getD 6 undef, xs.getD 7 undef, xs.getD 8 undef, xs.getD 9 undef, xs.getD 10 undef, xs.getD 11 undef, xs.getD 12 undef, xs.getD 13 undef, xs.getD 14 undef, xs.getD 15 undef, xs.getD 16 undef, xs.getD 17 undef, xs.getD 18 undef, xs.getD 19 undef, xs.getD 20 undef, xs.getD 21 undef, xs.getD 22 undef, xs.getD 23 undef, xs.getD 24 undef, xs.getD 25 undef, xs.getD 26 undef, xs.getD 27 undef, xs.getD 28 undef, xs.getD 29 undef, xs.getD 30 undef, xs.getD 31 undef, xs.getD 32 undef, xs.getD 33 undef, xs.getD 34 undef, xs.getD 35 undef, xs.getD 36 undef, xs.getD 37 undef, xs.getD 38 undef, xs.getD 39 undef, xs.getD 40 undef, xs.getD 41 undef, xs.getD 42 undef, xs.getD 43 undef, xs.getD 44 undef, xs.getD 45 undef, xs.getD 46 undef, xs.getD 47 undef, xs.getD 48 undef, xs.getD 49 undef, xs.getD 50 undef, xs.getD 51 undef, xs.getD 52 undef, xs.getD 53 undef, xs.getD 54 undef, xs.getD 55 undef, xs.getD 56 undef, xs.getD 57 undef, xs.getD 58 undef, xs.getD 59 undef, xs.getD 60 undef, xs.getD 61 undef, xs.getD 62 undef, xs.getD 63 undef, xs.getD 64 undef, xs.getD 65 undef, xs.getD 66 undef, xs.getD 67 undef, xs.getD 68 undef, xs.getD 69 undef, xs.getD 70 undef, xs.getD 71 undef, xs.getD 72 undef, xs.getD 73 undef, xs.getD 74 undef, xs.getD 75 undef, xs.getD 76 undef, xs.getD 77 undef, xs.getD 78 undef, xs.getD 79 undef, xs.getD 80 undef, xs.getD 81 undef, xs.getD 82 undef, xs.getD 83 undef, xs.getD 84 undef, xs.getD 85 undef, xs.getD 86 undef, xs.getD 87 undef, xs.getD 88 undef, xs.getD 89 undef, xs.getD 90 undef, xs.getD 91 undef, xs.getD 92 undef, xs.getD 93 undef, xs.getD 94 undef, xs.getD 95 undef, xs.getD 96 undef, xs.getD 97 undef, xs.getD 98 undef, xs.getD 99 undef, xs.getD 100 undef, xs.getD 101 undef, xs.getD 102 undef, xs.getD 103 undef, xs.getD 104 undef, xs.getD 105 undef, xs.getD 106 undef, xs.getD 107 undef, xs.getD 108 undef, xs.getD 109 undef, xs.getD 110 undef, xs.getD 111 undef, xs.getD 112 undef, xs.getD 113 undef, xs.getD 114 undef, xs.getD 115 undef, xs.getD 116 undef, xs.getD 117 undef, xs.getD 118 undef, xs.getD 119 undef, xs.getD 120 undef, xs.getD 121 undef, xs.getD 122 undef, xs.getD 123 undef, xs.getD 124 undef, xs.getD 125 undef, xs.getD 126 undef, xs.getD 127 undef, xs.getD 128 undef, xs.getD 129 undef, xs.getD 130 undef, xs.getD 131 undef, xs.getD 132 undef, xs.getD 133 undef, xs.getD 134 undef, xs.getD 135 undef, xs.getD 136 undef, xs.getD 137 undef, xs.getD 138 undef, xs.getD 139 undef, xs.getD 140 undef, xs.getD 141 undef, xs.getD 142 undef, xs.getD 143 undef, xs.getD 144 undef, xs.getD 145 undef, xs.getD 146 undef, xs.getD 147 undef, xs.getD 148 undef, xs.getD 149 undef, xs.getD 150 undef, xs.getD 151 undef, xs.getD 152 undef, xs.getD 153 undef, xs.getD 154 undef, xs.getD 155 undef, xs.getD 156 undef, xs.getD 157 undef, xs.getD 158 undef, xs.getD 159 undef, xs.getD 160 undef, xs.getD 161 undef, xs.getD 162 undef, xs.getD 163 undef, xs.getD 164 undef, xs.getD 165 undef] := all_slots xs 166 h
set_option maxRecDepth 100000 in
theorem frame_of166 (a : Act) (hs : a.tmps.size = 166) (hd : a.defers = []) : ∃ f : Nat → Value, a = ⟨#[f 0, f 1, f 2, f 3, f 4, f 5, f 6, f 7, f 8, f 9, f 10, f 11, f 12, f 13, f 14, f 15, f 16, f 17, f 18, f 19, f 20, f 21, f 22, f 23, f 24, f 25, f 26, f 27, f 28, f 29, f 30, f 31, f 32, f 33, f 34, f 35, f 36, f 37, f 38, f 39, f 40, f 41, f 42, f 43, f 44, f 45, f 46, f 47, f 48, f 49, f 50, f 51, f 52, f 53, f 54, f 55, f 56, f 57, f 58, f 59, f 60, f 61, f 62, f 63, f 64, f 65, f 66, f 67, f 68, f 69, f 70, f 71, f 72, f 73, f 74, f 75, f 76, f 77, f 78, f 79, f 80, f 81, f 82, f 83, f 84, f 85, f 86, f 87, f 88, f 89, f 90, f 91, f 92, f 93, f 94, f 95, f 96, f 97, f 98, f 99, f 100, f 101, f 102, f 103, f 104, f 105, f 106, f 107, f 108, f 109, f 110, f 111, f 112, f 113, f 114, f 115, f 116, f 117, f 118, f 119, f 120, f 121, f 122, f 123, f 124, f 125, f 126, f 127, f 128, f 129, f 130, f 131, f 132, f 133, f 134, f 135, f 136, f 137, f 138, f 139, f 140, f 141, f 142, f 143, f 144, f 145, f 146, f 147, f 148, f 149, f 150, f 151, f 152, f 153, f 154, f 155, f 156, f 157, f 158, f 159, f 160, f 161, f 162, f 163, f 164, f 165], []⟩ ∧ ∀ i, a.tmps.getD i undef = f i := by
  obtain ⟨xs, ds⟩ := a
  simp only at hs hd
  subst hd
  exact ⟨fun i => xs.getD i undef, by rw [← slots166 xs hs], fun _ => rfl⟩

theorem info82 : (Tryz.prog.info? 82).map (fun i => (i.zero, i.size, i.bytes)) = some (some (.agg #[.string ⟨#[]⟩, .string ⟨#[]⟩]), 2, 32) := by kernel_rfl
theorem info64 : (Tryz.prog.info? 64).map (fun i => (i.zero, i.size, i.bytes)) = some (some (.agg #[.string ⟨#[]⟩, .int .i64 0, .int .u64 0, .string ⟨#[]⟩]), 4, 48) := by kernel_rfl
/-- The parser's memory: its result's cells, the row that grows, the value read last, the rows of tags and fields. -/
structure PMem (name : ByteArray) (tags : List Tg) (fields : List Fd) (v vf : Value) (tm : Int) (w wr : World) : Prop where
  res : wr.heap[w.heap.size]? = some (.cells #[.string ⟨#[]⟩, .slice none 0 0, .slice none 0 0, .int .i64 0] 27 (0, 0))
  row : wr.heap[w.heap.size + 1]? = some (.cells #[.string name, v, vf, .int .i64 tm] 27 (0, 0))
  val : ∃ k b t, wr.heap[w.heap.size + 2]? = some (.cells #[.int .i64 k, .int .u64 b, .string t] 53 (0, 0))
  rt : RT wr (w.heap.size + 3) v tags
  rf : RF wr (w.heap.size + 3) vf fields
  ap : ∀ g, v.ownBlock = some g → vf.ownBlock ≠ some g
  bel : Below w.heap.size w wr
theorem PMem.size {name : ByteArray} {tags : List Tg} {fields : List Fd} {v vf : Value} {tm : Int} {w wr : World} (h : PMem name tags fields v vf tm w wr) : w.heap.size + 2 < wr.heap.size := by
  obtain ⟨k, b, t, h3⟩ := h.val
  exact lt_of_block h3
theorem PMem.later {name : ByteArray} {tags : List Tg} {fields : List Fd} {v vf : Value} {tm : Int} {w wr w' : World} (h : PMem name tags fields v vf tm w wr) (hb : Below wr.heap.size wr w') : PMem name tags fields v vf tm w w' := by
  obtain ⟨k, b, t, h3⟩ := h.val
  exact ⟨(hb.block _ (lt_of_block h.res)).trans h.res, (hb.block _ (lt_of_block h.row)).trans h.row, ⟨k, b, t, (hb.block _ (lt_of_block h3)).trans h3⟩, own_later h.rt hb, own_later h.rf hb, h.ap, h.bel.trans (hb.mono h.bel.size)⟩
/-- The cells of what the parser holds. -/
theorem PMem.cells {name : ByteArray} {tags : List Tg} {fields : List Fd} {v vf : Value} {tm : Int} {w wr : World} (h : PMem name tags fields v vf tm w wr) :
    wr.cell? ⟨w.heap.size + 1, 0, none⟩ = some (.string name) ∧ wr.cell? ⟨w.heap.size + 1, 1, none⟩ = some v ∧ wr.cell? ⟨w.heap.size + 1, 2, none⟩ = some vf ∧ wr.cell? ⟨w.heap.size + 1, 3, none⟩ = some (.int .i64 tm) :=
  ⟨Lib.cell_of_heap h.row 0, Lib.cell_of_heap h.row 1, Lib.cell_of_heap h.row 2, Lib.cell_of_heap h.row 3⟩
theorem PMem.rcells {name : ByteArray} {tags : List Tg} {fields : List Fd} {v vf : Value} {tm : Int} {w wr : World} (h : PMem name tags fields v vf tm w wr) :
    wr.cell? ⟨w.heap.size, 0, none⟩ = some (.string ⟨#[]⟩) ∧ wr.cell? ⟨w.heap.size, 1, none⟩ = some (.slice none 0 0) ∧ wr.cell? ⟨w.heap.size, 2, none⟩ = some (.slice none 0 0) ∧ wr.cell? ⟨w.heap.size, 3, none⟩ = some (.int .i64 0) ∧
      wr.frozen? ⟨w.heap.size, 0, none⟩ = false ∧ wr.frozen? ⟨w.heap.size, 1, none⟩ = false ∧ wr.frozen? ⟨w.heap.size, 2, none⟩ = false ∧ wr.frozen? ⟨w.heap.size, 3, none⟩ = false :=
  ⟨Lib.cell_of_heap h.res 0, Lib.cell_of_heap h.res 1, Lib.cell_of_heap h.res 2, Lib.cell_of_heap h.res 3, Lib.frozen_of_heap h.res 0, Lib.frozen_of_heap h.res 1, Lib.frozen_of_heap h.res 2, Lib.frozen_of_heap h.res 3⟩
theorem PMem.frees {name : ByteArray} {tags : List Tg} {fields : List Fd} {v vf : Value} {tm : Int} {w wr : World} (h : PMem name tags fields v vf tm w wr) :
    wr.frozen? ⟨w.heap.size + 1, 0, none⟩ = false ∧ wr.frozen? ⟨w.heap.size + 1, 1, none⟩ = false ∧ wr.frozen? ⟨w.heap.size + 1, 2, none⟩ = false ∧ wr.frozen? ⟨w.heap.size + 1, 3, none⟩ = false :=
  ⟨Lib.frozen_of_heap h.row 0, Lib.frozen_of_heap h.row 1, Lib.frozen_of_heap h.row 2, Lib.frozen_of_heap h.row 3⟩
/-- What a line's parsing answers. -/
def RowPost (o : LR) (w : World) (e : Ending) (w' : World) : Prop :=
  Below w.heap.size w w' ∧ match o.2 with
    | none => e = .returned (.tuple #[.agg #[.string ⟨#[]⟩, .slice none 0 0, .slice none 0 0, .int .i64 0], .int .i64 o.1])
    | some r => ∃ v vf, e = .returned (.tuple #[.agg #[.string r.1, v, vf, .int .i64 r.2.2.2], .int .i64 o.1]) ∧ RT w' w.heap.size v r.2.1 ∧ RF w' w.heap.size vf r.2.2.1 ∧ ∀ g, v.ownBlock = some g → vf.ownBlock ≠ some g
/-- The frame's fixed slots. -/
def Fx (w : World) (a : Act) : Prop := a.defers = [] ∧ a.tmps.size = 166 ∧ a.tmps.getD 4 undef = .pointer (some ⟨w.heap.size, 0, none⟩) ∧ a.tmps.getD 6 undef = .pointer (some ⟨w.heap.size + 1, 0, none⟩) ∧ a.tmps.getD 10 undef = .pointer (some ⟨w.heap.size + 2, 0, none⟩)
def JWrong (R : LR) (w : World) (a : Act) (wr : World) : Prop :=
  Fx w a ∧ ∃ er, a.tmps.getD 11 undef = .int .i64 er ∧ R = (er, none) ∧ wr.heap[w.heap.size]? = some (.cells #[.string ⟨#[]⟩, .slice none 0 0, .slice none 0 0, .int .i64 0] 27 (0, 0)) ∧ Below w.heap.size w wr
/-- What was gathered is of a bounded size. -/
def Okay (L : Nat) (name : ByteArray) (tags : List Tg) (fields : List Fd) : Prop :=
  name.size ≤ maxLen ∧ (∀ p ∈ tags, p.1.size ≤ maxLen ∧ p.2.size ≤ maxLen) ∧ (∀ p ∈ fields, FdOk p) ∧ tags.length ≤ L ∧ fields.length ≤ L
def JEnd (L : Nat) (R : LR) (w : World) (a : Act) (wr : World) : Prop :=
  Fx w a ∧ a.tmps.getD 11 undef = .int .i64 2 ∧ ∃ name tags fields v vf tm, PMem name tags fields v vf tm w wr ∧ Okay L name tags fields ∧ R = finP name tags (0, fields, tm)
def JField (V : List UInt8 → Value × Int) (now : Int) (L : Nat) (R : LR) (w : World) (m : Nat) (a : Act) (wr : World) : Prop :=
  Fx w a ∧ a.tmps.getD 11 undef = .int .i64 2 ∧ ∃ name tags fields v vf c r n, a.tmps.getD 0 undef = .string (bs (c :: r)) ∧ PMem name tags fields v vf now w wr ∧ Okay L name tags fields ∧ fields.length + r.length + 1 ≤ L ∧ r.length + 1 ≤ n ∧ r.length ≤ m ∧
    R = finP name tags (fieldsP V now n fields r)
def tagsR (V : List UInt8 → Value × Int) (now : Int) (L : Nat) (name : ByteArray) (o : Option (List Tg × List UInt8)) : LR :=
  match o with
  | none => (2, none)
  | some p => finP name p.1 (fieldsP V now L [] p.2)
def JTag (V : List UInt8 → Value × Int) (now : Int) (L : Nat) (R : LR) (w : World) (m : Nat) (a : Act) (wr : World) : Prop :=
  Fx w a ∧ a.tmps.getD 11 undef = .int .i64 2 ∧ ∃ name tags v c r n, a.tmps.getD 0 undef = .string (bs (c :: r)) ∧ PMem name tags [] v (.slice none 0 0) now w wr ∧ Okay L name tags [] ∧ tags.length + r.length + 1 ≤ L ∧ r.length + 1 ≤ n ∧ r.length ≤ m ∧
    R = tagsR V now L name (tagsP n tags r)
theorem results15 {tmps : Array Value} {wr : World} {B : Nat} {x y z u : Value} (hb : tmps.getD 4 undef = .pointer (some ⟨B, 0, none⟩)) (hk : wr.heap[B]? = some (.cells #[x, y, z, u] 27 (0, 0))) :
    (results Tryz.f15 tmps).run Tryz.prog wr = .ok (.tuple #[.agg #[x, y, z, u], tmps.getD 5 undef]) wr := by
  have hb' : tmps[4]?.getD undef = .pointer (some ⟨B, 0, none⟩) := by simpa using hb
  have h0 : wr.cell? ⟨B, 0, none⟩ = some x := Lib.cell_of_heap hk 0
  have h1 : wr.cell? ⟨B, 1, none⟩ = some y := Lib.cell_of_heap hk 1
  have h2 : wr.cell? ⟨B, 2, none⟩ = some z := Lib.cell_of_heap hk 2
  have h3 : wr.cell? ⟨B, 3, none⟩ = some u := Lib.cell_of_heap hk 3
  simp [results, hb', h0, h1, h2, h3, go_sem]
/-- Four stores into a block of four cells. -/
theorem four {wr : World} {B : Nat} {a b c d : Value} {T : TypeId} (x y z u : Value) (hk : wr.heap[B]? = some (.cells #[a, b, c, d] T (0, 0))) :
    ((((wr.setCell ⟨B, 0, none⟩ x).setCell ⟨B, 1, none⟩ y).setCell ⟨B, 2, none⟩ z).setCell ⟨B, 3, none⟩ u).heap[B]? = some (.cells #[x, y, z, u] T (0, 0)) := by
  have h1 := heap_setCell_same _ B 0 _ _ x hk
  have h2 := heap_setCell_same _ B 1 _ _ y h1
  have h3 := heap_setCell_same _ B 2 _ _ z h2
  exact heap_setCell_same _ B 3 _ _ u h3
theorem below_four {w wr : World} {B : Nat} (x y z u : Value) (h : Below B w wr) : Below B w ((((wr.setCell ⟨B, 0, none⟩ x).setCell ⟨B, 1, none⟩ y).setCell ⟨B, 2, none⟩ z).setCell ⟨B, 3, none⟩ u) :=
  (((h.setCell (Nat.le_refl _) _).setCell (Nat.le_refl _) _).setCell (Nat.le_refl _) _).setCell (Nat.le_refl _) _
/-- What the code asks of what stands behind it. -/
def Rets (R : LR) (w : World) (Q : Exit → Act → World → Prop) : Prop :=
  ∀ (a' : Act) (w' : World) (x y z u : Value) (er : Int), a'.defers = [] → a'.tmps.getD 4 undef = .pointer (some ⟨w.heap.size, 0, none⟩) → a'.tmps.getD 5 undef = .int .i64 er → w'.heap[w.heap.size]? = some (.cells #[x, y, z, u] 27 (0, 0)) → RowPost R w (.returned (.tuple #[.agg #[x, y, z, u], .int .i64 er])) w' → Q .ret a' w'
theorem rets15 {R : LR} {w : World} : Rets R w (bodyPost Tryz.prog Tryz.f15 (RowPost R w)) := fun a' w' x y z u er hd h4 h5 hk hp =>
  bodyPost_ret (results15 h4 hk) hd (by rw [h5]; exact hp)
set_option maxHeartbeats 1000000 in
theorem pass_wrong {R : LR} {w : World} {Q : Exit → Act → World → Prop} (hret : Rets R w Q) (rest : Code) (hr : (Tryz.f15.body.bind firstScope).bind (findLabel · 0) = some (Code.skip.seq rest))
    (a : Act) (wr : World) (hJ : JWrong R w a wr) : rest.wp Tryz.prog Q a wr := by
  change some _ = some _ at hr
  cases hr
  obtain ⟨⟨hd0, hsz, g4, g6, g10⟩, er, g11, hR, hres, hbl⟩ := hJ
  obtain ⟨fr, rfl, hf⟩ := frame_of166 a hsz hd0
  rw [hf] at g4 g6 g10 g11
  rw [g4, g6, g10, g11]
  have z0 := Lib.frozen_of_heap hres 0
  have z1 := Lib.frozen_of_heap hres 1
  have z2 := Lib.frozen_of_heap hres 2
  have z3 := Lib.frozen_of_heap hres 3
  have c0 : wr.cell? ⟨w.heap.size, 0, none⟩ = _ := Lib.cell_of_heap hres 0
  have c1 : wr.cell? ⟨w.heap.size, 1, none⟩ = _ := Lib.cell_of_heap hres 1
  have c2 : wr.cell? ⟨w.heap.size, 2, none⟩ = _ := Lib.cell_of_heap hres 2
  have c3 : wr.cell? ⟨w.heap.size, 3, none⟩ = _ := Lib.cell_of_heap hres 3
  have HR := Lib.hid hR
  have HRET := Lib.hid hret
  have HBL := Lib.hid hbl
  have HRES := Lib.hid hres
  clear hf hsz hd0 hR hret hbl hres
  go_wp2_with fail
  exact HRET.out _ _ _ _ _ _ _ rfl rfl rfl (four _ _ _ _ HRES.out) ⟨below_four _ _ _ _ HBL.out, by rw [HR.out]⟩
theorem PMem.sortT {name : ByteArray} {tags ts : List Tg} {fields : List Fd} {v vf : Value} {tm : Int} {w wr w2 : World} (h : PMem name tags fields v vf tm w wr) (hp : ts.Perm tags)
    (ho : w2.ownsRow (w.heap.size + 3) 82 2 v tags.length (ts.flatMap encT)) (hg : wr.grownBy w2 v.ownBlock) : PMem name ts fields v vf tm w w2 := by
  obtain ⟨k, b, t, h3⟩ := h.val
  have l3 := lt_of_block h3
  have ne : ∀ j, j < w.heap.size + 3 → some j ≠ v.ownBlock := fun j hj e => by have := (h.rt.lt j e.symm).1; omega
  refine ⟨(hg.block _ (by omega) (ne _ (by omega))).trans h.res, (hg.block _ (by omega) (ne _ (by omega))).trans h.row, ⟨k, b, t, (hg.block _ (by omega) (ne _ (by omega))).trans h3⟩, by rw [RT, hp.length_eq]; exact ho, h.rf.kept hg ?_, h.ap, ?_⟩
  · cases hv : vf.ownBlock with
    | none => exact .inl rfl
    | some g => exact .inr fun e => h.ap g e.symm hv
  · exact h.bel.grown hg (by omega) (fun j hj => by have := (h.rt.lt j hj).1; omega)
theorem PMem.sortF {name : ByteArray} {tags : List Tg} {fields fs : List Fd} {v vf : Value} {tm : Int} {w wr w2 : World} (h : PMem name tags fields v vf tm w wr) (hp : fs.Perm fields)
    (ho : w2.ownsRow (w.heap.size + 3) 64 4 vf fields.length (fs.flatMap encF)) (hg : wr.grownBy w2 vf.ownBlock) : PMem name tags fs v vf tm w w2 := by
  obtain ⟨k, b, t, h3⟩ := h.val
  have l3 := lt_of_block h3
  have ne : ∀ j, j < w.heap.size + 3 → some j ≠ vf.ownBlock := fun j hj e => by have := (h.rf.lt j e.symm).1; omega
  refine ⟨(hg.block _ (by omega) (ne _ (by omega))).trans h.res, (hg.block _ (by omega) (ne _ (by omega))).trans h.row, ⟨k, b, t, (hg.block _ (by omega) (ne _ (by omega))).trans h3⟩, h.rt.kept hg ?_, by rw [RF, hp.length_eq]; exact ho, h.ap, ?_⟩
  · cases hv : v.ownBlock with
    | none => exact .inl rfl
    | some g => exact .inr fun e => h.ap g hv e.symm
  · exact h.bel.grown hg (by omega) (fun j hj => by have := (h.rf.lt j hj).1; omega)
theorem own_down {w : World} {b1 b2 e size n : Nat} {v : Value} {xs : List Value} (h : w.ownsRow b1 e size v n xs) (hb : b2 ≤ b1) : w.ownsRow b2 e size v n xs := by
  refine ⟨h.1, ?_⟩
  rcases h.2 with h1 | ⟨g, cap, cur, h1, h2, h3⟩
  · exact .inl h1
  · exact .inr ⟨g, cap, cur, h1, by omega, h3⟩
theorem hp_len {α : Type} {a b : List α} (h : a.Perm b) : a.length = b.length := h.length_eq
theorem tags_sized {tags ts : List Tg} (hp : ts.Perm tags) (h : ∀ p ∈ tags, p.1.size ≤ maxLen ∧ p.2.size ≤ maxLen) : ∀ i, (kOf ts i).size ≤ maxLen ∧ (vOf ts i).size ≤ maxLen := by
  intro i
  by_cases hi : i < ts.length
  · rw [(kOf_get hi).1, (kOf_get hi).2]
    exact h _ (hp.mem_iff.1 (List.getElem_mem hi))
  · have e1 : kOf ts i = ⟨#[]⟩ := by simp [kOf, List.getD, List.getElem?_eq_none (Nat.le_of_not_lt hi)]
    have e2 : vOf ts i = ⟨#[]⟩ := by simp [vOf, List.getD, List.getElem?_eq_none (Nat.le_of_not_lt hi)]
    rw [e1, e2]
    exact ⟨Nat.zero_le _, Nat.zero_le _⟩
set_option maxHeartbeats 4000000 in
theorem pass_end {L : Nat} (hL : L ≤ 1073741824) {R : LR} {w : World} {Q : Exit → Act → World → Prop} (hret : Rets R w Q) (rest : Code) (hr : (Tryz.f15.body.bind firstScope).bind (findLabel · 3) = some (Code.skip.seq rest))
    (a : Act) (wr : World) (hJ : JEnd L R w a wr) : rest.wp Tryz.prog Q a wr := by
  change some _ = some _ at hr
  cases hr
  obtain ⟨⟨hd0, hsz, g4, g6, g10⟩, g11, name, tags, fields, v, vf, tm, hm, ⟨hn1, hn2, hn3, hn4, hn5⟩, hR⟩ := hJ
  obtain ⟨fr, rfl, hf⟩ := frame_of166 a hsz hd0
  rw [hf] at g4 g6 g10 g11
  rw [g4, g6, g10, g11]
  obtain ⟨d0, d1, d2, d3⟩ := hm.cells
  have M44 := Lib.hid (sort44 tags _ v wr hm.rt (by omega))
  have HM := Lib.hid hm
  have HR := Lib.hid hR
  have HRET := Lib.hid hret
  have HN2 := Lib.hid hn2
  have HN3 := Lib.hid hn3
  clear hf hsz hd0 hR hret hm hn2 hn3
  go_wp2_with fail
  refine M44.out.mono ?_
  rintro e w2 ⟨rfl, ts, hp, hwk, ho, hg⟩
  have hm2 := HM.out.sortT hp ho hg
  have HP := Lib.hid hp
  have HWK := Lib.hid hwk
  have HM2 := Lib.hid hm2
  have M47 := Lib.hid (sort47 fields _ vf w2 hm2.rf (by omega))
  clear d0 d1 d2 d3
  obtain ⟨d0, d1, d2, d3⟩ := hm2.cells
  clear ho hg hp hwk hm2
  go_wp2_with fail
  refine M47.out.mono ?_
  rintro e w3 ⟨rfl, fs, hp, hwk, ho, hg⟩
  have hm3 := HM2.out.sortF hp ho hg
  have HP3 := Lib.hid hp
  have HWK3 := Lib.hid hwk
  have HM3 := Lib.hid hm3
  obtain ⟨a1, c1, hv1⟩ := hm3.rt.slice
  obtain ⟨a2, c2, hv2⟩ := hm3.rf.slice
  subst hv1 hv2
  have MF := Lib.hid (formed25 name a1 a2 ts.length c1 c2 tm (kOf ts) (vOf ts) fs w3 (by rw [hp_len HP.out]; omega) (by rw [hp_len hp]; omega) hn1 (tags_sized HP.out HN2.out) (fun p h => HN3.out p (hp.mem_iff.1 h)) hm3.rt.at hm3.rf.at)
  obtain ⟨hrow, heq⟩ := rowOk_of (name := name) HP.out HWK.out hp hwk
  rw [hrow] at MF
  have HEQ := Lib.hid heq
  obtain ⟨ok, hok⟩ : ∃ ok, rowOk name (srt keyT tags) (srt keyF fields) = ok := ⟨_, rfl⟩
  rw [hok] at MF HEQ
  have HRR : Hid (R = if ok = true then (0, some (name, srt keyT tags, srt keyF fields, tm)) else (2, none)) := Lib.hid (by rw [HR.out]; unfold finP; rw [if_pos rfl, hok])
  clear d0 d1 d2 d3
  obtain ⟨d0, d1, d2, d3⟩ := hm3.cells
  clear ho hg hp hwk hm3 hrow heq hok
  go_wp2_with fail
  refine MF.out.mono ?_
  rintro e w4 ⟨rfl, hb4⟩
  have hm4 := HM3.out.later hb4
  have HM4 := Lib.hid hm4
  clear d0 d1 d2 d3
  obtain ⟨d0, d1, d2, d3⟩ := hm4.cells
  obtain ⟨q0, q1, q2, q3, z0, z1, z2, z3⟩ := hm4.rcells
  clear hb4 hm4
  cases ok with
  | true =>
    obtain ⟨rfl, rfl⟩ := HEQ.out rfl
    go_wp2_with fail
    refine HRET.out _ _ _ _ _ _ _ rfl rfl rfl (four _ _ _ _ HM4.out.res) ⟨below_four _ _ _ _ HM4.out.bel, ?_⟩
    rw [HRR.out]
    refine ⟨_, _, rfl, ?_, ?_, HM4.out.ap⟩
    · exact own_down (ownsRow_setCell_below (ownsRow_setCell_below (ownsRow_setCell_below (ownsRow_setCell_below HM4.out.rt (by simp) _) (by simp) _) (by simp) _) (by simp) _) (by omega)
    · exact own_down (ownsRow_setCell_below (ownsRow_setCell_below (ownsRow_setCell_below (ownsRow_setCell_below HM4.out.rf (by simp) _) (by simp) _) (by simp) _) (by simp) _) (by omega)
  | false =>
    go_wp2_with fail
    go_step3
    rename_i K hK
    refine hK _ _ (pass_wrong HRET.out _ rfl _ _ ?_)
    exact ⟨⟨rfl, rfl, rfl, rfl, rfl⟩, 2, rfl, HRR.out, HM4.out.res, HM4.out.bel⟩
end Go.Proofs.YtagiddbfhlokcaaGreatDoor.Ser
