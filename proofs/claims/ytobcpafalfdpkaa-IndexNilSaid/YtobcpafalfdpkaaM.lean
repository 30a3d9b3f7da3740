/- Maps at keys that are strings: a map in the heap holds a list of keys and values; what lookups, stores and deletes leave. No condition. -/
import Derived.Test.YtobcpafalfdpkaaL
import Derived.Maps.RangeWalk
import Derived.Sort.KeysCollected
namespace Go.Proofs.Ytobcpafalfdpkaa
open Go.RowKit Go.WideMaps Go.Sort
/-- How a map's elements read: each as itself. -/
structure VK (α : Type) where
  v : α → Value
  R : Value → Option (DataW Unit × List MemPlace)
  d : α → DataW Unit
  rd : ∀ a, R (v a) = some (d a, [])
  inv : ∀ {x a p}, R x = some (d a, p) → x = v a
abbrev BA := ByteArray
def ent {α : Type} (K : VK α) (p : BA × α) : Lit × DataW Unit := (.string p.1.data.toList, K.d p.2)
def ofKey {α : Type} (s : BA) (p : BA × α) : Bool := decide (p.1 = s)
def get {α : Type} (L : List (BA × α)) (s : BA) : Option α := (L.find? (ofKey s)).map (·.2)
def insS {α : Type} (x : BA × α) : List (BA × α) → List (BA × α)
  | [] => [x]
  | y :: r => if bytesBefore x.1.data.toList y.1.data.toList then x :: y :: r else y :: insS x r
def del {α : Type} (L : List (BA × α)) (s : BA) : List (BA × α) := L.filter fun p => !ofKey s p
def put {α : Type} (L : List (BA × α)) (s : BA) (a : α) : List (BA × α) := insS (s, a) (del L s)
theorem ba_eq {a b : ByteArray} (h : a.data.toList = b.data.toList) : a = b := ByteArray.ext (Array.toList_inj.1 h)
theorem sameKey_str (a b : BA) : (Lit.string a.data.toList).sameKey (.string b.data.toList) = decide (a = b) := by
  rw [Bool.eq_iff_iff]
  simp only [Lit.sameKey, beq_iff_eq, decide_eq_true_eq]
  exact ⟨ba_eq, fun h => by rw [h]⟩
theorem insS_ent {α : Type} (K : VK α) (x : BA × α) : ∀ L : List (BA × α), (insS x L).map (ent K) = DataW.insert (ent K x) (L.map (ent K))
  | [] => rfl
  | y :: r => by
    simp only [insS, List.map_cons, DataW.insert]
    have e : (ent K x).1.before (ent K y).1 = bytesBefore x.1.data.toList y.1.data.toList := rfl
    rw [e]
    split
    · simp
    · rw [List.map_cons, insS_ent K x r]
theorem insS_perm {α : Type} (x : BA × α) : ∀ L : List (BA × α), (insS x L).Perm (x :: L)
  | [] => .refl _
  | y :: r => by
    simp only [insS]
    split
    · exact .refl _
    · exact ((insS_perm x r).cons y).trans (.swap x y r)
theorem del_ent {α : Type} (K : VK α) (L : List (BA × α)) (s : BA) : (DataW.map (L.map (ent K))).del (.string s.data.toList) = .map ((del L s).map (ent K)) := by
  show DataW.map (List.filter _ _) = _
  unfold del
  rw [List.filter_map]
  congr 2
  refine List.filter_congr fun p _ => ?_
  show (!(Lit.string p.1.data.toList).sameKey (.string s.data.toList)) = _
  rw [sameKey_str]; rfl
theorem put_ent {α : Type} (K : VK α) (L : List (BA × α)) (s : BA) (a : α) : (DataW.map (L.map (ent K))).put (.string s.data.toList) (K.d a) = .map ((put L s a).map (ent K)) := by
  unfold put
  rw [insS_ent]
  show DataW.map (DataW.insert _ (List.filter _ _)) = _
  unfold del
  rw [List.filter_map]
  congr 3
  refine List.filter_congr fun p _ => ?_
  show (!(Lit.string p.1.data.toList).sameKey (.string s.data.toList)) = _
  rw [sameKey_str]; rfl
theorem get_cons {α : Type} (y : BA × α) (r : List (BA × α)) (t : BA) : get (y :: r) t = if y.1 = t then some y.2 else get r t := by
  unfold get ofKey
  rw [List.find?_cons]
  by_cases h : y.1 = t
  · rw [decide_eq_true h, if_pos h]; rfl
  · rw [decide_eq_false h, if_neg h]
theorem get_ins {α : Type} (x : BA × α) : ∀ L : List (BA × α), (∀ p ∈ L, p.1 ≠ x.1) → ∀ t, get (insS x L) t = if x.1 = t then some x.2 else get L t
  | [], _, t => by unfold insS; rw [get_cons]
  | y :: r, hP, t => by
    have hy := hP y (List.mem_cons_self ..)
    unfold insS
    split
    · rw [get_cons]
    · rw [get_cons, get_cons, get_ins x r (fun p hp => hP p (List.mem_cons_of_mem _ hp)) t]
      by_cases h : y.1 = t
      · rw [if_pos h, if_neg (fun e => hy (h.trans e.symm)), if_pos h]
      · rw [if_neg h, if_neg h]
theorem get_del {α : Type} (L : List (BA × α)) (s t : BA) : get (del L s) t = if s = t then none else get L t := by
  induction L with
  | nil => unfold del get; simp
  | cons y r ih =>
    by_cases hy : y.1 = s
    · have e : del (y :: r) s = del r s := by unfold del; rw [List.filter_cons_of_neg (by simp [ofKey, hy])]
      rw [e, ih, get_cons]
      by_cases h : s = t
      · rw [if_pos h, if_pos h]
      · rw [if_neg h, if_neg h, if_neg (fun e => h (hy.symm.trans e))]
    · have e : del (y :: r) s = y :: del r s := by unfold del; rw [List.filter_cons_of_pos (by simp [ofKey, hy])]
      rw [e, get_cons, get_cons, ih]
      by_cases h : s = t
      · subst h
        rw [if_neg hy, if_pos rfl, if_pos rfl]
      · rw [if_neg h, if_neg h]
theorem del_mem {α : Type} {L : List (BA × α)} {s : BA} {p : BA × α} : p ∈ del L s ↔ p ∈ L ∧ p.1 ≠ s := by
  unfold del ofKey
  rw [List.mem_filter]
  simp
theorem put_mem {α : Type} {L : List (BA × α)} {s : BA} {a : α} {p : BA × α} : p ∈ put L s a ↔ p = (s, a) ∨ (p ∈ L ∧ p.1 ≠ s) := by
  unfold put
  rw [(insS_perm _ _).mem_iff, List.mem_cons, del_mem]
theorem get_put {α : Type} (L : List (BA × α)) (s : BA) (a : α) (t : BA) : get (put L s a) t = if s = t then some a else get L t := by
  unfold put
  rw [get_ins (s, a) _ fun p hp => (del_mem.1 hp).2]
  by_cases h : s = t
  · rw [if_pos h, if_pos h]
  · rw [if_neg h, if_neg h, get_del, if_neg h]
theorem get_some {α : Type} {L : List (BA × α)} {s : BA} {a : α} (h : get L s = some a) : (s, a) ∈ L := by
  unfold get at h
  cases hf : L.find? (ofKey s) with
  | none => rw [hf] at h; cases h
  | some p =>
    rw [hf] at h
    have h1 := List.find?_some hf
    have h2 := List.mem_of_find?_eq_some hf
    have h3 : p.1 = s := of_decide_eq_true h1
    simp at h
    rw [← h3, ← h]; exact h2
theorem get_none {α : Type} {L : List (BA × α)} {s : BA} (h : get L s = none) : ∀ p ∈ L, p.1 ≠ s := fun p hp e => by
  unfold get at h
  cases hf : L.find? (ofKey s) with
  | some p => rw [hf] at h; cases h
  | none =>
    have := List.find?_eq_none.1 hf p hp
    exact this (decide_eq_true e)
def sLt (a b : BA) : Prop := Op.bytesLess a.data.toList b.data.toList = true
def RisingK {α : Type} (L : List (BA × α)) : Prop := L.Pairwise fun a b => sLt a.1 b.1
theorem before_lt : ∀ a b : List UInt8, bytesBefore a b = Op.bytesLess a b
  | [], [] => rfl
  | [], _ :: _ => rfl
  | _ :: _, [] => rfl
  | a :: r, b :: s => by simp only [bytesBefore, Op.bytesLess, before_lt r s]
theorem sLt_irr (a : BA) : ¬ sLt a a := by
  unfold sLt
  rw [bytesLess_eq, decide_eq_true_eq]
  exact List.lt_irrefl _
theorem sLt_tr {a b c : BA} (h : sLt a b) (h' : sLt b c) : sLt a c := by
  unfold sLt at *
  rw [bytesLess_eq, decide_eq_true_eq] at *
  exact List.lt_trans h h'
theorem sLt_tri {a b : BA} (h : ¬ sLt a b) (h' : ¬ sLt b a) : a = b := by
  unfold sLt at *
  rw [bytesLess_eq, decide_eq_true_eq] at *
  exact ba_eq (List.le_antisymm (List.not_lt.1 h') (List.not_lt.1 h))
theorem rising_get {α : Type} {L : List (BA × α)} (h : RisingK L) {s : BA} {a : α} (hm : (s, a) ∈ L) : get L s = some a := by
  induction L with
  | nil => cases hm
  | cons y r ih =>
    unfold RisingK at h
    rw [List.pairwise_cons] at h
    rw [get_cons]
    rcases List.mem_cons.1 hm with e | hm
    · rw [← e, if_pos rfl]
    · by_cases hy : y.1 = s
      · have := h.1 _ hm
        rw [hy] at this
        exact absurd this (sLt_irr _)
      · rw [if_neg hy]; exact ih h.2 hm
theorem sorted_unique {α : Type} {r : α → α → Prop} (irr : ∀ a, ¬ r a a) (tr : ∀ a b c, r a b → r b c → r a c) : ∀ {L M : List α}, L.Pairwise r → M.Pairwise r → (∀ x, x ∈ L ↔ x ∈ M) → L = M
  | [], [], _, _, _ => rfl
  | [], m :: M, _, _, h => nomatch (h m).2 (List.mem_cons_self ..)
  | l :: L, [], _, _, h => nomatch (h l).1 (List.mem_cons_self ..)
  | l :: L, m :: M, hL, hM, h => by
    rw [List.pairwise_cons] at hL hM
    have hlm : l = m := by
      rcases List.mem_cons.1 ((h l).1 (List.mem_cons_self ..)) with e | e
      · exact e
      · rcases List.mem_cons.1 ((h m).2 (List.mem_cons_self ..)) with e2 | e2
        · exact e2.symm
        · exact absurd (tr _ _ _ (hL.1 m e2) (hM.1 l e)) (irr l)
    subst hlm
    congr 1
    refine sorted_unique irr tr hL.2 hM.2 fun x => ⟨fun hx => ?_, fun hx => ?_⟩
    · rcases List.mem_cons.1 ((h x).1 (List.mem_cons_of_mem _ hx)) with e | e
      · exact absurd (e ▸ hL.1 x hx) (irr _)
      · exact e
    · rcases List.mem_cons.1 ((h x).2 (List.mem_cons_of_mem _ hx)) with e | e
      · exact absurd (e ▸ hM.1 x hx) (irr _)
      · exact e
theorem rising_eq {α : Type} {L M : List (BA × α)} (hL : RisingK L) (hM : RisingK M) (h : ∀ x, x ∈ L ↔ x ∈ M) : L = M :=
  sorted_unique (r := fun a b : BA × α => sLt a.1 b.1) (fun _ => sLt_irr _) (fun _ _ _ => sLt_tr) hL hM h
/-- A map in the heap. -/
structure MapS {α : Type} (w : World) (K : VK α) (b : Nat) (L : List (BA × α)) : Prop where
  own : w.ownsMap Try.prog 9 K.R b L.length (.map (L.map (ent K)))
  sizes : ∀ p ∈ L, p.1.size ≤ maxLen
theorem MapS.lt {α : Type} {w : World} {K : VK α} {b : Nat} {L : List (BA × α)} (h : MapS w K b L) : b < w.heap.size := h.own.lt
theorem MapS.obj {α : Type} {w : World} {K : VK α} {b : Nat} {L : List (BA × α)} (h : MapS w K b L) : ∃ es c, w.heap[b]? = some (.map es c) := by
  obtain ⟨es, c, h1, _⟩ := h.own
  exact ⟨es, c, h1⟩
theorem MapS.same {α : Type} {w w' : World} {K : VK α} {b : Nat} {L : List (BA × α)} (h : MapS w K b L) (hk : w'.heap[b]? = w.heap[b]?) : MapS w' K b L := by
  obtain ⟨⟨es, c, h1, h2⟩, h3⟩ := h
  exact ⟨⟨es, c, hk.trans h1, h2⟩, h3⟩
theorem MapS.rising {α : Type} {w : World} {K : VK α} {b : Nat} {L : List (BA × α)} (h : MapS w K b L) : RisingK L := by
  obtain ⟨⟨es, c, _, F, _, hD⟩, _⟩ := h
  have hr := Maps.fit_rising (Maps.string_keyed Try.underlying9) F
  injection hD with hD
  rw [← hD] at hr
  have hp := WideShapes.rising_pairwise _ hr
  rw [List.pairwise_map] at hp
  refine hp.imp ?_
  intro a b hab
  unfold sLt
  rw [← before_lt]
  exact hab
theorem MapS.made {α : Type} (w : World) (K : VK α) : MapS (w.alloc (.map #[] 0)) K w.heap.size [] := ⟨World.ownsMap_made w Try.prog 9 K.R, fun _ h => nomatch h⟩
theorem atKey_get {α : Type} (K : VK α) (L : List (BA × α)) (s : BA) (zd : DataW Unit) : (DataW.map (L.map (ent K))).atKey (.string s.data.toList) zd = match get L s with | some a => K.d a | none => zd := by
  unfold DataW.atKey get
  simp only [List.find?_map]
  have : L.find? ((fun p : Lit × DataW Unit => p.1.sameKey (.string s.data.toList)) ∘ ent K) = L.find? (ofKey s) := by
    congr 1
    funext p
    exact sameKey_str p.1 s
  rw [this]
  cases L.find? (ofKey s) <;> rfl
theorem has_get {α : Type} (K : VK α) (L : List (BA × α)) (s : BA) : Maps.has (DataW.map (L.map (ent K))) (.string s.data.toList) = (get L s).isSome := by
  induction L with
  | nil => rfl
  | cons y r ih =>
    rw [Maps.has_eq] at ih ⊢
    rw [List.map_cons, List.any_cons, ih, get_cons]
    have e : (ent K y).1.sameKey (.string s.data.toList) = decide (y.1 = s) := sameKey_str y.1 s
    rw [e]
    by_cases h : y.1 = s
    · rw [if_pos h, decide_eq_true h]; rfl
    · rw [if_neg h, decide_eq_false h]; rfl
def getV {α : Type} (K : VK α) (L : List (BA × α)) (s : BA) (z : Value) : Value := match get L s with | some a => K.v a | none => z
theorem MapS.look {α : Type} {w : World} {K : VK α} {b : Nat} {L : List (BA × α)} (h : MapS w K b L) {mt et : TypeId} (ht : Try.prog.underlying mt = some (.map 9 et)) {z : Value} (hz : (zeroValue et).run Try.prog w = .ok z w) {zd : DataW Unit} (hzd : K.R z = some (zd, [])) (hzi : ∀ x p, K.R x = some (zd, p) → x = z) (s : BA) (hs : s.size ≤ maxLen) :
    (Instr.lookup mt (.map (some b)) (.string s) false).run Try.prog w = .ok (getV K L s z) w := by
  obtain ⟨v, ps, hr, hv⟩ := h.own.lookup (Maps.string_keyed Try.underlying9) ht hz hzd (key := .string s) (kl := .string s.data.toList) (WideMaps.keyOf_string_mk Try.underlying9 hs)
  rw [atKey_get] at hv
  rw [hr]
  unfold getV
  cases hg : get L s with
  | none => rw [hg] at hv; rw [hzi _ _ hv]
  | some a => rw [hg] at hv; rw [K.inv hv]
theorem MapS.look_ok {α : Type} {w : World} {K : VK α} {b : Nat} {L : List (BA × α)} (h : MapS w K b L) {mt et : TypeId} (ht : Try.prog.underlying mt = some (.map 9 et)) {z : Value} (hz : (zeroValue et).run Try.prog w = .ok z w) {zd : DataW Unit} (hzd : K.R z = some (zd, [])) (hzi : ∀ x p, K.R x = some (zd, p) → x = z) (s : BA) (hs : s.size ≤ maxLen) :
    (Instr.lookup mt (.map (some b)) (.string s) true).run Try.prog w = .ok (.tuple #[getV K L s z, .bool (get L s).isSome]) w := by
  obtain ⟨v, ps, hr, hv⟩ := h.own.look_ok (Maps.string_keyed Try.underlying9) ht hz hzd (key := .string s) (kl := .string s.data.toList) (WideMaps.keyOf_string_mk Try.underlying9 hs)
  rw [atKey_get] at hv
  rw [hr, has_get]
  unfold getV
  cases hg : get L s with
  | none => rw [hg] at hv; rw [hzi _ _ hv]
  | some a => rw [hg] at hv; rw [K.inv hv]
theorem len_ins {H : Type} (x : Lit × DataW H) : ∀ L : List (Lit × DataW H), (DataW.insert x L).length = L.length + 1
  | [] => rfl
  | y :: r => by
    simp only [DataW.insert]
    split
    · rfl
    · rw [List.length_cons, len_ins x r, List.length_cons]
theorem len_sorted {H : Type} : ∀ L : List (Lit × DataW H), (L.foldr DataW.insert []).length = L.length
  | [] => rfl
  | x :: r => by rw [List.foldr_cons, len_ins, len_sorted r, List.length_cons]
theorem ownsMap_tight {H : Type} {w : World} {P : Program} {k : TypeId} {R : Value → Option (DataW H × List MemPlace)} {b n : Nat} {xs : List (Lit × DataW H)} (h : w.ownsMap P k R b n (.map xs)) : w.ownsMap P k R b xs.length (.map xs) := by
  obtain ⟨es, c, h1, h2, h3, h4⟩ := h
  refine ⟨es, c, h1, h2, ?_, h4⟩
  injection h4 with h4
  rw [h4, len_sorted]
  simp
theorem MapS.store {α : Type} {w : World} {K : VK α} {b : Nat} {L : List (BA × α)} (h : MapS w K b L) {mt et : TypeId} (ht : Try.prog.underlying mt = some (.map 9 et)) (s : BA) (hs : s.size ≤ maxLen) (a : α) (hn : L.length < maxLen) :
    ∃ w', (Instr.mapUpdate mt (.map (some b)) (.string s) (K.v a)).run Try.prog w = .ok () w' ∧ MapS w' K b (put L s a) ∧ w.grownBy w' (some b) := by
  obtain ⟨w', hrun, hown, htn⟩ := h.own.store (Maps.string_keyed Try.underlying9) ht hn (key := .string s) (kl := .string s.data.toList) (WideMaps.keyOf_string_mk Try.underlying9 hs) (K.rd a)
  rw [put_ent] at hown
  have h1 := ownsMap_tight hown
  rw [List.length_map] at h1
  exact ⟨w', hrun, ⟨h1, fun p hp => by
    rcases put_mem.1 hp with rfl | hp
    · exact hs
    · exact h.sizes p hp.1⟩, htn.grown⟩
theorem MapS.drop {α : Type} {w : World} {K : VK α} {b : Nat} {L : List (BA × α)} (h : MapS w K b L) {mt et : TypeId} (ht : Try.prog.underlying mt = some (.map 9 et)) (s : BA) (hs : s.size ≤ maxLen) (ty : TypeId) :
    ∃ w', (Builtin.delete_ #[mt, 9] ty #[.map (some b), .string s]).run Try.prog w = .ok (.tuple #[]) w' ∧ MapS w' K b (del L s) ∧ w.grownBy w' (some b) := by
  obtain ⟨w', hrun, hown, htn⟩ := h.own.drop (Maps.string_keyed Try.underlying9) ht (key := .string s) (kl := .string s.data.toList) (WideMaps.keyOf_string_mk Try.underlying9 hs) ty
  rw [del_ent] at hown
  have h1 := ownsMap_tight hown
  rw [List.length_map] at h1
  exact ⟨w', hrun, ⟨h1, fun p hp => h.sizes p (del_mem.1 hp).1⟩, htn.grown⟩
theorem MapS.len {α : Type} {w : World} {K : VK α} {b : Nat} {L : List (BA × α)} (h : MapS w K b L) {mt et : TypeId} (ht : Try.prog.underlying mt = some (.map 9 et)) (ty : TypeId) : (Builtin.len_ #[mt] ty #[.map (some b)]).run Try.prog w = .ok (.int .i64 L.length) w := by
  have := h.own.len ht ty
  rw [this]
  simp [Maps.size]
end Go.Proofs.Ytobcpafalfdpkaa
