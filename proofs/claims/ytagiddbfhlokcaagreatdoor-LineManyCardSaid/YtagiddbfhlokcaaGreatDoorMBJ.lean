/- Several texts of this proof, laid together. Conditions: as each says. -/
import Derived.Test.YtagiddbfhlokcaaGreatDoorMBH
import Derived.Test.YtagiddbfhlokcaaGreatDoorMBI
import Derived.Sort.OwnSorted
import Derived.Sort.Grow
import Derived.OneCell
/- slices.SortFunc at tags and at fields: the row holds the same, in order; nothing else has turned. No condition. -/
namespace Go.Proofs.YtagiddbfhlokcaaGreatDoor.Ser
open Go.RowKit Go.Sort Go.Shelf
set_option maxRecDepth 100000
set_option linter.unusedSectionVars false
theorem nanS (s : ByteArray) (w : World) : Calls Tryz.prog 88 #[.string s] w fun e w' => e = .returned (.bool false) ∧ w = w' := by
  go_enter Tryz.func88, Tryz.ntmps88
  go_wp2_with fail
  go_ret
  exact ⟨rfl, rfl⟩
def cmpS (a b : ByteArray) : Int := if Op.bytesLess a.toList b.toList then -1 else if Op.bytesLess b.toList a.toList then 1 else 0
theorem compareS (a b : ByteArray) (w : World) : Calls Tryz.prog 46 #[.string a, .string b] w fun e w' => e = .returned (.int .i64 (cmpS a b)) ∧ w = w' := by
  cases h1 : Op.bytesLess a.toList b.toList with
  | true =>
    have H : Hid (cmpS a b = -1) := Lib.hid (by unfold cmpS; rw [h1]; rfl)
    go_enter Tryz.func46, Tryz.ntmps46
    go_wp2_with fail
    refine (nanS a _).mono ?_
    rintro e w' ⟨rfl, rfl⟩
    go_wp2_with fail
    refine (nanS b _).mono ?_
    rintro e w' ⟨rfl, rfl⟩
    go_wp2_with fail
    go_ret
    exact ⟨by rw [H.out]; rfl, rfl⟩
  | false =>
    cases h2 : Op.bytesLess b.toList a.toList with
    | true =>
      have H : Hid (cmpS a b = 1) := Lib.hid (by unfold cmpS; rw [h1, h2]; rfl)
      have h3 : (a.toList == b.toList) = false := by
        rw [beq_eq_false_iff_ne]
        intro e
        rw [e, bytesLess_eq, decide_eq_true_eq] at h2
        exact List.lt_irrefl _ h2
      go_enter Tryz.func46, Tryz.ntmps46
      go_wp2_with fail
      refine (nanS a _).mono ?_
      rintro e w' ⟨rfl, rfl⟩
      go_wp2_with fail
      refine (nanS b _).mono ?_
      rintro e w' ⟨rfl, rfl⟩
      go_wp2_with fail
      go_ret
      exact ⟨by rw [H.out]; rfl, rfl⟩
    | false =>
      have H : Hid (cmpS a b = 0) := Lib.hid (by unfold cmpS; rw [h1, h2]; rfl)
      have h3 : (a.toList == b.toList) = true := by
        rw [beq_iff_eq]
        rw [bytesLess_eq, decide_eq_false_iff_not] at h1 h2
        exact lt_tri _ _ h1 h2
      go_enter Tryz.func46, Tryz.ntmps46
      go_wp2_with fail
      refine (nanS a _).mono ?_
      rintro e w' ⟨rfl, rfl⟩
      go_wp2_with fail
      refine (nanS b _).mono ?_
      rintro e w' ⟨rfl, rfl⟩
      go_wp2_with fail
      go_ret
      exact ⟨by rw [H.out]; rfl, rfl⟩
theorem cmpS_lt (a b : ByteArray) : (cmpS a b < 0) ↔ a.toList < b.toList := by
  unfold cmpS
  rw [bytesLess_eq, bytesLess_eq]
  by_cases h : a.toList < b.toList
  · simp [h]
  · by_cases h2 : b.toList < a.toList <;> simp [h, h2]
def encT (p : Tg) : List Value := [.string p.1, .string p.2]
def encF (p : Fd) : List Value := [.string p.1, .int .i64 p.2.1, .int .u64 p.2.2.1, .string p.2.2.2]
theorem encT_len (x : Tg) : (encT x).length = 2 := rfl
theorem encF_len (x : Fd) : (encF x).length = 4 := rfl
/-- What the closures say: the keys compared. -/
def cmpT (x y : Tg) : Int := cmpS x.1 y.1
def cmpF (x y : Fd) : Int := cmpS x.1 y.1
theorem key_list (s : ByteArray) : s.toList = s.data.toList := by rw [ByteArray.toList_eq]
theorem swoT : SWO (ltOf cmpT) := by
  have h : ∀ x y : Tg, ltOf cmpT x y = decide (x.1.toList < y.1.toList) := fun x y => by
    unfold ltOf cmpT
    rw [Bool.eq_iff_iff, decide_eq_true_eq, decide_eq_true_eq, cmpS_lt]
  refine ⟨fun x => ?_, fun x y z h1 h2 => ?_, fun x y z h1 h2 => ?_⟩
  · rw [h]; exact decide_eq_false (List.lt_irrefl _)
  · rw [h, decide_eq_true_eq] at *; exact List.lt_trans h1 h2
  · rw [h, decide_eq_false_iff_not] at *; exact nlt_trans h2 h1
theorem swoF : SWO (ltOf cmpF) := by
  have h : ∀ x y : Fd, ltOf cmpF x y = decide (x.1.toList < y.1.toList) := fun x y => by
    unfold ltOf cmpF
    rw [Bool.eq_iff_iff, decide_eq_true_eq, decide_eq_true_eq, cmpS_lt]
  refine ⟨fun x => ?_, fun x y z h1 h2 => ?_, fun x y z h1 h2 => ?_⟩
  · rw [h]; exact decide_eq_false (List.lt_irrefl _)
  · rw [h, decide_eq_true_eq] at *; exact List.lt_trans h1 h2
  · rw [h, decide_eq_false_iff_not] at *; exact nlt_trans h2 h1
theorem closure45 (x y : Tg) (W : World) : Calls Tryz.prog 45 #[.agg #[.string x.1, .string x.2], .agg #[.string y.1, .string y.2]] W fun e w' => e = .returned (.int .i64 (cmpT x y)) ∧ ∃ q os', w' = grow (W.drewN q) os' := by
  obtain ⟨a, b⟩ := x
  obtain ⟨c, d⟩ := y
  have HG : Hid (∃ q' os', (W.alloc (.cells #[.string a, .string b] 82)).alloc (.cells #[.string c, .string d] 82) = grow (W.drewN q') os') := Lib.hid ⟨0, _, by rw [alloc_eq_grow, alloc_eq_grow, World.drewN_zero, grow_grow]⟩
  have MC := Lib.hid (fun w => compareS a c w)
  unfold cmpT
  go_enter Tryz.func45, Tryz.ntmps45
  go_wp2_with fail
  refine (MC.out _).mono ?_
  rintro e w' ⟨rfl, rfl⟩
  go_wp2_with fail
  go_ret
  exact ⟨rfl, HG.out⟩
theorem closure48 (x y : Fd) (W : World) : Calls Tryz.prog 48 #[.agg #[.string x.1, .int .i64 x.2.1, .int .u64 x.2.2.1, .string x.2.2.2], .agg #[.string y.1, .int .i64 y.2.1, .int .u64 y.2.2.1, .string y.2.2.2]] W fun e w' => e = .returned (.int .i64 (cmpF x y)) ∧ ∃ q os', w' = grow (W.drewN q) os' := by
  obtain ⟨a, b1, b2, b3⟩ := x
  obtain ⟨c, d1, d2, d3⟩ := y
  have HG : Hid (∃ q' os', (W.alloc (.cells #[.string a, .int .i64 b1, .int .u64 b2, .string b3] 64)).alloc (.cells #[.string c, .int .i64 d1, .int .u64 d2, .string d3] 64) = grow (W.drewN q') os') := Lib.hid ⟨0, _, by rw [alloc_eq_grow, alloc_eq_grow, World.drewN_zero, grow_grow]⟩
  have MC := Lib.hid (fun w => compareS a c w)
  unfold cmpF
  go_enter Tryz.func48, Tryz.ntmps48
  go_wp2_with fail
  refine (MC.out _).mono ?_
  rintro e w' ⟨rfl, rfl⟩
  go_wp2_with fail
  go_ret
  exact ⟨rfl, HG.out⟩
section
variable {α : Type} [Inhabited α] {enc : α → List Value} {k : Nat}
theorem flat_len (hk : ∀ x, (enc x).length = k) (ks : List α) : (ks.flatMap enc).length = ks.length * k := by
  induction ks with
  | nil => simp
  | cons x r ih => rw [List.flatMap_cons, List.length_append, ih, hk, List.length_cons, Nat.succ_mul]; omega
theorem flat_get (hk : ∀ x, (enc x).length = k) (h0 : 0 < k) : ∀ (ks : List α) (j : Nat), j < ks.length * k → (ks.flatMap enc)[j]? = (enc (ks.toArray)[j / k]!)[j % k]?
  | [], j, h => by simp at h
  | x :: r, j, h => by
    rw [List.flatMap_cons]
    by_cases hj : j < k
    · rw [List.getElem?_append_left (by rw [hk]; exact hj), Nat.div_eq_of_lt hj, Nat.mod_eq_of_lt hj]
      rfl
    · rw [List.getElem?_append_right (by rw [hk]; omega), hk]
      have h1 : j - k < r.length * k := by
        rw [List.length_cons, Nat.succ_mul] at h
        omega
      rw [flat_get hk h0 r (j - k) h1]
      have h2 : j / k = (j - k) / k + 1 := by
        rw [Nat.div_eq_sub_div h0 (by omega)]
      have h3 : j % k = (j - k) % k := by
        rw [Nat.mod_eq_sub_mod (by omega)]
      rw [h2, h3]
      simp
theorem flatK_flat (hk : ∀ x, (enc x).length = k) (h0 : 0 < k) (ks : List α) : (flatK enc k ks.toArray).toList = ks.flatMap enc := by
  apply List.ext_getElem?
  intro j
  by_cases hj : j < ks.length * k
  · rw [flat_get hk h0 ks j hj]
    have h1 := get_flatK enc k ks.toArray j (by simpa using hj)
    have h2 : j < (flatK enc k ks.toArray).toList.length := by simpa using hj
    rw [List.getElem?_eq_getElem h2, Array.getElem_toList]
    rw [getElem!_pos _ _ (by simpa using hj)] at h1
    have h4 : j % k < k := Nat.mod_lt _ h0
    rw [h1, List.getElem?_eq_getElem (by rw [hk]; omega), getElem!_pos _ _ (by rw [hk]; omega)]
  · rw [List.getElem?_eq_none (by simp; omega), List.getElem?_eq_none (by rw [flat_len hk]; omega)]
theorem holdsK_of_block (hk : ∀ x, (enc x).length = k) (h0 : 0 < k) {w : World} {g : Nat} {cur : Array Value} {e : TypeId} {ks : List α} (hb : w.heap[g]? = some (.cells cur e (0, 0))) (ht : cur.toList.take (ks.length * k) = ks.flatMap enc) : HoldsK enc k w g 0 ks.toArray := by
  intro j hj
  have hj' : j < ks.length * k := by simpa using hj
  refine ⟨?_, by simp [World.frozen?, hb]⟩
  have h1 : (cur.toList.take (ks.length * k))[j]? = (flatK enc k ks.toArray).toList[j]? := by rw [ht, flatK_flat hk h0]
  rw [List.getElem?_take_of_lt hj', Array.getElem?_toList, Array.getElem?_toList] at h1
  simp only [World.cell?, hb, Nat.zero_add]
  simp only [Option.isSome_none, Bool.false_eq_true, if_false]
  rw [h1, Array.getElem?_eq_getElem hj, getElem!_pos (flatK enc k ks.toArray) j hj]
  rfl
theorem heap_sortedK {w : World} {g n : Nat} {os : Array Obj} {cur : Array Value} {e : TypeId} {fr : Nat × Nat} (d : Array α) (hb : w.heap[g]? = some (.cells cur e fr)) :
    (sortWorldK enc k w g 0 n d os).heap[g]? = some (.cells (putCells id 0 (flatK enc k d) cur) e fr) := by
  have hg : g < w.heap.size := (Array.getElem?_eq_some_iff.1 hb).1
  unfold sortWorldK putRowK
  rw [heap_grow_old _ _ (by simpa using hg)]
  simp [putRow, mapBlock, Sort.ahead, Array.getElem?_modify, hb, onCells]
theorem grownBy_sortedK {w : World} {g n : Nat} {os : Array Obj} (d : Array α) : w.grownBy (sortWorldK enc k w g 0 n d os) (some g) := by
  unfold sortWorldK putRowK
  refine ⟨rfl, rfl, rfl, by simp, fun k hk hne => ?_⟩
  rw [heap_grow_old _ _ (by simpa using hk)]
  have : g ≠ k := fun e => hne (by rw [e])
  simp [putRow, mapBlock, Sort.ahead, Array.getElem?_modify, this]
theorem take_putK (cur : Array Value) (F : Array Value) (h : F.size ≤ cur.size) : (putCells id 0 F cur).toList.take F.size = F.toList := by
  apply List.ext_getElem?
  intro j
  by_cases hj : j < F.size
  · rw [List.getElem?_take_of_lt hj, Array.getElem?_toList]
    simp [putCells, hj, show j < cur.size by omega]
  · rw [List.getElem?_take_eq_none (by omega), List.getElem?_eq_none (by simp; omega)]
theorem ownsRow_sortedK (hk : ∀ x, (enc x).length = k) (h0 : 0 < k) {w : World} {base g cap n : Nat} {e : TypeId} {os : Array Obj} {cur : Array Value} {ks ts : List α} (hl : ts.length = ks.length) (hbase : base ≤ g) (hb : w.heap[g]? = some (.cells cur e (0, 0)))
    (h1 : ks.length ≤ cap) (h2 : cap ≤ maxLen) (h3 : cur.size = cap * k) :
    (sortWorldK enc k w g 0 n ts.toArray os).ownsRow base e k (.slice (some ⟨g, 0, none⟩) ks.length cap) ks.length (ts.flatMap enc) :=
  ⟨by rw [flat_len hk, hl], .inr ⟨g, cap, _, rfl, hbase, heap_sortedK _ hb, h1, h2, by simp [putCells, h3], by
    rw [← flatK_flat hk h0, ← hl]
    have := take_putK cur (flatK enc k ts.toArray) (by
      simp
      rw [h3, hl]
      exact Nat.mul_le_mul_right _ h1)
    rwa [size_flatK, List.size_toArray] at this⟩⟩
end
instance : Inhabited Tg := ⟨(⟨#[]⟩, ⟨#[]⟩)⟩
instance : Inhabited Fd := ⟨(⟨#[]⟩, 0, 0, ⟨#[]⟩)⟩
theorem weak_of {α : Type} [Inhabited α] {cf : α → α → Int} {key : α → List UInt8} (hcf : ∀ x y, ltOf cf x y = decide (key x < key y)) {ts : List α} (hs : SortedIn (ltOf cf) 0 ts.length ts.toArray) : Weak key ts := by
  unfold Weak
  rw [List.pairwise_iff_getElem]
  intro i j hi hj hij
  have h1 := hs i j (Nat.zero_le _) hij hj
  rw [hcf, getElem!_pos ts.toArray i (by simpa using hi), getElem!_pos ts.toArray j (by simpa using hj), decide_eq_false_iff_not] at h1
  simpa using h1
/-- The row turned into order. -/
def Sorted {α : Type} (key : α → List UInt8) (enc : α → List Value) (E : TypeId) (k base : Nat) (v : Value) (L : List α) (w : World) (e : Ending) (w' : World) : Prop :=
  e = .returned (.tuple #[]) ∧ ∃ ts : List α, ts.Perm L ∧ Weak key ts ∧ w'.ownsRow base E k v L.length (ts.flatMap enc) ∧ w.grownBy w' v.ownBlock
theorem ltT (x y : Tg) : ltOf cmpT x y = decide (keyT x < keyT y) := by
  unfold ltOf cmpT keyT
  rw [Bool.eq_iff_iff, decide_eq_true_eq, decide_eq_true_eq, cmpS_lt, key_list, key_list]
theorem ltF (x y : Fd) : ltOf cmpF x y = decide (keyF x < keyF y) := by
  unfold ltOf cmpF keyF
  rw [Bool.eq_iff_iff, decide_eq_true_eq, decide_eq_true_eq, cmpS_lt, key_list, key_list]
theorem sort44 (L : List Tg) (base : Nat) (v : Value) (w : World) (h : w.ownsRow base 82 2 v L.length (L.flatMap encT)) (hsz : L.length < 4611686018427387904) :
    Calls Tryz.prog 44 #[v, .func (.func 45) #[] #[]] w (Sorted keyT encT 82 2 base v L w) := by
  rcases h.2 with ⟨rfl, hx⟩ | ⟨g, cap, cur, rfl, hbase, hb, h1, h2, h3, ht⟩
  · have hL : L = [] := by
      have := flat_len encT_len L
      rw [hx] at this
      simp at this
      exact List.eq_nil_of_length_eq_zero (by omega)
    subst hL
    refine (AnyF.slices_SortFunc_none Tryz.sortT none 0 _ w).mono ?_
    rintro e w' ⟨rfl, rfl⟩
    exact ⟨rfl, [], .refl _, by simp [Weak], World.ownsRow_nil _ _ _ _, rfl, rfl, rfl, Nat.le_refl _, fun _ _ _ => rfl⟩
  · have hg : g < w.heap.size := (Array.getElem?_eq_some_iff.1 hb).1
    have hl : (L.flatMap encT).length = L.length * 2 := flat_len encT_len L
    have hcon := AnyQ.slices_SortFunc Tryz.sortT 2 Tryz.isAgg82 Tryz.sizeOf82 encT encT_len (fun x v hv => by simp [encT] at hv; rcases hv with rfl | rfl <;> rfl) cmpT swoT 45 #[] g 0 cap L.toArray w (enters_of Tryz.func45 (by kernel_rfl) rfl) (fun _ _ _ _ x y => closure45 x y _) (holdsK_of_block encT_len (by omega) hb (by rw [← ht])) hg (by simpa using hsz)
    change Calls Tryz.prog 44 _ _ _ at hcon
    rw [List.size_toArray] at hcon
    refine hcon.mono ?_
    rintro e w' ⟨rfl, d, n, os, ⟨hz, _, hp⟩, hs, rfl⟩
    obtain ⟨ts, rfl⟩ : ∃ ts : List Tg, d = ts.toArray := ⟨d.toList, by simp⟩
    have hlen : ts.length = L.length := by simpa using hz
    have hperm : ts.Perm L := by
      have e1 : (ts.toArray.extract 0 L.length).toList = ts := by rw [← hlen]; simp
      have e2 : (L.toArray.extract 0 L.length).toList = L := by simp
      rwa [e1, e2] at hp
    exact ⟨rfl, ts, hperm, weak_of ltT (by rw [hlen]; exact hs), ownsRow_sortedK encT_len (by omega) hlen hbase hb h1 h2 h3, grownBy_sortedK _⟩
theorem sort47 (L : List Fd) (base : Nat) (v : Value) (w : World) (h : w.ownsRow base 64 4 v L.length (L.flatMap encF)) (hsz : L.length < 4611686018427387904) :
    Calls Tryz.prog 47 #[v, .func (.func 48) #[] #[]] w (Sorted keyF encF 64 4 base v L w) := by
  rcases h.2 with ⟨rfl, hx⟩ | ⟨g, cap, cur, rfl, hbase, hb, h1, h2, h3, ht⟩
  · have hL : L = [] := by
      have := flat_len encF_len L
      rw [hx] at this
      simp at this
      exact List.eq_nil_of_length_eq_zero (by omega)
    subst hL
    refine (AnyF.slices_SortFunc_none Tryz.sortF none 0 _ w).mono ?_
    rintro e w' ⟨rfl, rfl⟩
    exact ⟨rfl, [], .refl _, by simp [Weak], World.ownsRow_nil _ _ _ _, rfl, rfl, rfl, Nat.le_refl _, fun _ _ _ => rfl⟩
  · have hg : g < w.heap.size := (Array.getElem?_eq_some_iff.1 hb).1
    have hl : (L.flatMap encF).length = L.length * 4 := flat_len encF_len L
    have hcon := AnyQ.slices_SortFunc Tryz.sortF 4 Tryz.isAgg64 Tryz.sizeOf64 encF encF_len (fun x v hv => by simp [encF] at hv; rcases hv with rfl | rfl | rfl | rfl <;> rfl) cmpF swoF 48 #[] g 0 cap L.toArray w (enters_of Tryz.func48 (by kernel_rfl) rfl) (fun _ _ _ _ x y => closure48 x y _) (holdsK_of_block encF_len (by omega) hb (by rw [← ht])) hg (by simpa using hsz)
    change Calls Tryz.prog 47 _ _ _ at hcon
    rw [List.size_toArray] at hcon
    refine hcon.mono ?_
    rintro e w' ⟨rfl, d, n, os, ⟨hz, _, hp⟩, hs, rfl⟩
    obtain ⟨ts, rfl⟩ : ∃ ts : List Fd, d = ts.toArray := ⟨d.toList, by simp⟩
    have hlen : ts.length = L.length := by simpa using hz
    have hperm : ts.Perm L := by
      have e1 : (ts.toArray.extract 0 L.length).toList = ts := by rw [← hlen]; simp
      have e2 : (L.toArray.extract 0 L.length).toList = L := by simp
      rwa [e1, e2] at hp
    exact ⟨rfl, ts, hperm, weak_of ltF (by rw [hlen]; exact hs), ownsRow_sortedK encF_len (by omega) hlen hbase hb h1 h2 h3, grownBy_sortedK _⟩
end Go.Proofs.YtagiddbfhlokcaaGreatDoor.Ser
/- Rows of tags and of fields in order: plain law; and as they lie in memory. No condition. -/
namespace Go.Proofs.YtagiddbfhlokcaaGreatDoor.Ser
open Go.RowKit Go.Sort
set_option maxRecDepth 100000
theorem climb (f : Nat → List UInt8) (n : Nat) : (∀ i, i < n → i = 0 ∨ f (i - 1) < f i) ↔ ∀ i j, i < j → j < n → f i < f j := by
  constructor
  · intro h i j hij hj
    induction j with
    | zero => omega
    | succ j ih =>
      have h1 := h (j + 1) hj
      simp at h1
      by_cases he : i = j
      · subst he; exact h1
      · exact List.lt_trans (ih (by omega) (by omega)) h1
  · intro h i hi
    by_cases h0 : i = 0
    · exact .inl h0
    · exact .inr (h (i - 1) i (by omega) hi)
theorem kOf_get {ts : List Tg} {i : Nat} (h : i < ts.length) : kOf ts i = ts[i].1 ∧ vOf ts i = ts[i].2 := by simp [kOf, vOf, List.getD, h]
theorem fE_get {fs : List Fd} {i : Nat} (h : i < fs.length) : fE fs i = fs[i] := by simp [fE, List.getD, h]
theorem steps_iff (ts : List Tg) : (List.range ts.length).all (stepOk (kOf ts) (vOf ts)) = true ↔ (∀ p ∈ ts, nameB p.1.data.toList = true ∧ nameB p.2.data.toList = true) ∧ Rise keyT ts := by
  have h1 : ((List.range ts.length).all (stepOk (kOf ts) (vOf ts)) = true) ↔ (∀ i (h : i < ts.length), nameB ts[i].1.data.toList = true ∧ nameB ts[i].2.data.toList = true) ∧ (∀ i, i < ts.length → i = 0 ∨ (kOf ts (i - 1)).data.toList < (kOf ts i).data.toList) := by
    rw [List.all_eq_true]
    constructor
    · intro h
      refine ⟨fun i hi => ?_, fun i hi => ?_⟩
      · have := h i (by simpa using hi)
        unfold stepOk at this
        rw [(kOf_get hi).1, (kOf_get hi).2] at this
        simp only [Bool.and_eq_true] at this
        exact ⟨this.1, this.2.1⟩
      · have := h i (by simpa using hi)
        unfold stepOk at this
        simp only [Bool.and_eq_true, Bool.or_eq_true, decide_eq_true_eq, bytesLess_eq] at this
        exact this.2.2
    · rintro ⟨h2, h3⟩ i hi
      have hi : i < ts.length := by simpa using hi
      unfold stepOk
      simp only [Bool.and_eq_true, Bool.or_eq_true, decide_eq_true_eq, bytesLess_eq]
      exact ⟨by rw [(kOf_get hi).1]; exact (h2 i hi).1, by rw [(kOf_get hi).2]; exact (h2 i hi).2, h3 i hi⟩
  rw [h1, climb (fun i => (kOf ts i).data.toList)]
  refine and_congr ⟨fun h p hp => ?_, fun h i hi => h _ (List.getElem_mem hi)⟩ ?_
  · obtain ⟨i, hi, rfl⟩ := List.getElem_of_mem hp
    exact h i hi
  · unfold Rise
    rw [List.pairwise_iff_getElem]
    constructor
    · intro h i j hi hj hij
      have := h i j hij hj
      rw [(kOf_get hi).1, (kOf_get hj).1] at this
      exact this
    · intro h i j hij hj
      rw [(kOf_get (show i < ts.length by omega)).1, (kOf_get hj).1]
      exact h i j (by omega) hj hij
theorem fsteps_iff (fs : List Fd) : fformB fs = true ↔ (∀ p ∈ fs, nameB p.1.data.toList = true ∧ formV p.2.1 p.2.2.1 p.2.2.2 = true) ∧ Rise keyF fs := by
  have h1 : (fformB fs = true) ↔ (∀ i (h : i < fs.length), nameB fs[i].1.data.toList = true ∧ formV fs[i].2.1 fs[i].2.2.1 fs[i].2.2.2 = true) ∧ (∀ i, i < fs.length → i = 0 ∨ (fE fs (i - 1)).1.data.toList < (fE fs i).1.data.toList) := by
    unfold fformB
    rw [List.all_eq_true]
    constructor
    · intro h
      refine ⟨fun i hi => ?_, fun i hi => ?_⟩
      · have := h i (by simpa using hi)
        unfold fstep at this
        rw [fE_get hi] at this
        simp only [Bool.and_eq_true] at this
        exact ⟨this.1, this.2.1⟩
      · have := h i (by simpa using hi)
        unfold fstep at this
        simp only [Bool.and_eq_true, Bool.or_eq_true, decide_eq_true_eq, bytesLess_eq] at this
        exact this.2.2
    · rintro ⟨h2, h3⟩ i hi
      have hi : i < fs.length := by simpa using hi
      unfold fstep
      simp only [Bool.and_eq_true, Bool.or_eq_true, decide_eq_true_eq, bytesLess_eq]
      exact ⟨by rw [fE_get hi]; exact (h2 i hi).1, by rw [fE_get hi]; exact (h2 i hi).2, h3 i hi⟩
  rw [h1, climb (fun i => (fE fs i).1.data.toList)]
  refine and_congr ⟨fun h p hp => ?_, fun h i hi => h _ (List.getElem_mem hi)⟩ ?_
  · obtain ⟨i, hi, rfl⟩ := List.getElem_of_mem hp
    exact h i hi
  · unfold Rise
    rw [List.pairwise_iff_getElem]
    constructor
    · intro h i j hi hj hij
      have := h i j hij hj
      rw [fE_get hi, fE_get hj] at this
      exact this
    · intro h i j hij hj
      rw [fE_get (show i < fs.length by omega), fE_get hj]
      exact h i j (by omega) hj hij
/-- Rows of the same, both in order: the one is formed just if the other is, and then they are one. -/
theorem rowOk_of {name : ByteArray} {tags ts : List Tg} {fields fs : List Fd} (ht : ts.Perm tags) (hw : Weak keyT ts) (hf : fs.Perm fields) (hv : Weak keyF fs) :
    rowB name ts.length (kOf ts) (vOf ts) fs = rowOk name (srt keyT tags) (srt keyF fields) ∧ (rowOk name (srt keyT tags) (srt keyF fields) = true → ts = srt keyT tags ∧ fs = srt keyF fields) := by
  have pt : ts.Perm (srt keyT tags) := ht.trans (srt_perm keyT tags).symm
  have pf : fs.Perm (srt keyF fields) := hf.trans (srt_perm keyF fields).symm
  have wt := srt_weak keyT tags
  have wf := srt_weak keyF fields
  have rt : Rise keyT ts ↔ Rise keyT (srt keyT tags) := ⟨fun h => rise_of_weak h wt pt, fun h => rise_of_weak h hw pt.symm⟩
  have rf : Rise keyF fs ↔ Rise keyF (srt keyF fields) := ⟨fun h => rise_of_weak h wf pf, fun h => rise_of_weak h hv pf.symm⟩
  have e1 : (List.range ts.length).all (stepOk (kOf ts) (vOf ts)) = (List.range (srt keyT tags).length).all (stepOk (kOf (srt keyT tags)) (vOf (srt keyT tags))) := by
    rw [Bool.eq_iff_iff, steps_iff, steps_iff, rt]
    exact and_congr ⟨fun h p hp => h p (pt.mem_iff.2 hp), fun h p hp => h p (pt.mem_iff.1 hp)⟩ Iff.rfl
  have e2 : fformB fs = fformB (srt keyF fields) := by
    rw [Bool.eq_iff_iff, fsteps_iff, fsteps_iff, rf]
    exact and_congr ⟨fun h p hp => h p (pf.mem_iff.2 hp), fun h p hp => h p (pf.mem_iff.1 hp)⟩ Iff.rfl
  refine ⟨?_, fun h => ?_⟩
  · unfold rowB rowOk formedB
    rw [e1, e2, pt.length_eq, pf.length_eq]
  · unfold rowOk formedB at h
    simp only [Bool.and_eq_true] at h
    have h1 := (steps_iff _).1 h.2.1.1
    have h2 := (fsteps_iff _).1 h.1
    exact ⟨(rise_eq h1.2 hw pt.symm).symm, (rise_eq h2.2 hv pf.symm).symm⟩
/-! ### In memory -/
theorem encT_get : ∀ (L : List Tg) (i : Nat), i < L.length → (L.flatMap encT)[i * 2]? = some (.string (kOf L i)) ∧ (L.flatMap encT)[i * 2 + 1]? = some (.string (vOf L i))
  | [], i, h => by simp at h
  | p :: L, 0, _ => by simp [encT, kOf, vOf]
  | p :: L, i + 1, h => by
    have ih := encT_get L i (by simpa using h)
    have e1 : kOf (p :: L) (i + 1) = kOf L i := by simp [kOf]
    have e2 : vOf (p :: L) (i + 1) = vOf L i := by simp [vOf]
    rw [List.flatMap_cons, e1, e2, List.getElem?_append_right (by rw [encT_len]; omega), List.getElem?_append_right (by rw [encT_len]; omega)]
    rw [encT_len, show (i + 1) * 2 - 2 = i * 2 by omega, show (i + 1) * 2 + 1 - 2 = i * 2 + 1 by omega]
    exact ih
theorem encF_get : ∀ (L : List Fd) (i : Nat), i < L.length → (L.flatMap encF)[i * 4]? = some (.string (fE L i).1) ∧ (L.flatMap encF)[i * 4 + 1]? = some (.int .i64 (fE L i).2.1) ∧ (L.flatMap encF)[i * 4 + 2]? = some (.int .u64 (fE L i).2.2.1) ∧ (L.flatMap encF)[i * 4 + 3]? = some (.string (fE L i).2.2.2)
  | [], i, h => by simp at h
  | p :: L, 0, _ => by simp [encF, fE]
  | p :: L, i + 1, h => by
    have ih := encF_get L i (by simpa using h)
    have e1 : fE (p :: L) (i + 1) = fE L i := by simp [fE]
    rw [List.flatMap_cons, e1, List.getElem?_append_right (by rw [encF_len]; omega), List.getElem?_append_right (by rw [encF_len]; omega), List.getElem?_append_right (by rw [encF_len]; omega), List.getElem?_append_right (by rw [encF_len]; omega)]
    rw [encF_len, show (i + 1) * 4 - 4 = i * 4 by omega, show (i + 1) * 4 + 1 - 4 = i * 4 + 1 by omega, show (i + 1) * 4 + 2 - 4 = i * 4 + 2 by omega, show (i + 1) * 4 + 3 - 4 = i * 4 + 3 by omega]
    exact ih
abbrev RT (w : World) (base : Nat) (v : Value) (L : List Tg) : Prop := w.ownsRow base 82 2 v L.length (L.flatMap encT)
abbrev RF (w : World) (base : Nat) (v : Value) (L : List Fd) : Prop := w.ownsRow base 64 4 v L.length (L.flatMap encF)
theorem RT.slice {w : World} {base : Nat} {v : Value} {L : List Tg} (h : RT w base v L) : ∃ a cap, v = .slice a L.length cap := by
  rcases h.2 with ⟨rfl, hx⟩ | ⟨g, cap, cur, rfl, _⟩
  · have := flat_len encT_len L
    rw [hx] at this
    simp at this
    exact ⟨none, 0, by rw [show L.length = 0 by omega]⟩
  · exact ⟨_, _, rfl⟩
theorem RF.slice {w : World} {base : Nat} {v : Value} {L : List Fd} (h : RF w base v L) : ∃ a cap, v = .slice a L.length cap := by
  rcases h.2 with ⟨rfl, hx⟩ | ⟨g, cap, cur, rfl, _⟩
  · have := flat_len encF_len L
    rw [hx] at this
    simp at this
    exact ⟨none, 0, by rw [show L.length = 0 by omega]⟩
  · exact ⟨_, _, rfl⟩
theorem RT.at {w : World} {base cap : Nat} {a : Option Addr} {L : List Tg} (h : RT w base (.slice a L.length cap) L) : TagsAt w a L.length (kOf L) (vOf L) := by
  intro i hi
  obtain ⟨g, cap', hv, _, hlt⟩ := h.form (by omega)
  cases hv
  obtain ⟨h1, h2⟩ := encT_get L i hi
  have c1 := h.cellAt (i * 2) (by omega)
  have c2 := h.cellAt (i * 2 + 1) (by omega)
  exact ⟨g, 0, rfl, hlt, by rw [Nat.zero_add, c1, h1], by rw [Nat.zero_add, c2, h2]⟩
theorem RF.at {w : World} {base cap : Nat} {a : Option Addr} {L : List Fd} (h : RF w base (.slice a L.length cap) L) : FieldsAt w a L := by
  intro i hi
  obtain ⟨g, cap', hv, _, hlt⟩ := h.form (by omega)
  cases hv
  obtain ⟨h1, h2, h3, h4⟩ := encF_get L i hi
  have c1 := h.cellAt (i * 4) (by omega)
  have c2 := h.cellAt (i * 4 + 1) (by omega)
  have c3 := h.cellAt (i * 4 + 2) (by omega)
  have c4 := h.cellAt (i * 4 + 3) (by omega)
  exact ⟨g, 0, rfl, hlt, by rw [Nat.zero_add, c1, h1], by rw [Nat.zero_add, c2, h2], by rw [Nat.zero_add, c3, h3], by rw [Nat.zero_add, c4, h4]⟩
theorem own_later {w w' : World} {base e size n : Nat} {v : Value} {xs : List Value} (h : w.ownsRow base e size v n xs) (hb : Below w.heap.size w w') : w'.ownsRow base e size v n xs :=
  h.kept (row := none) ⟨hb.os, hb.tape, hb.output, hb.size, fun i hi _ => hb.block i hi⟩ (by cases v.ownBlock <;> simp)
end Go.Proofs.YtagiddbfhlokcaaGreatDoor.Ser
