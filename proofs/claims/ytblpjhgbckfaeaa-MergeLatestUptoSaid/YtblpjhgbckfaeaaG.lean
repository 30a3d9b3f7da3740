/- Merge's map of maps in the heap: each key's inner map, each time's value; both are sought. No condition. -/
import Derived.Test.YtblpjhgbckfaeaaF
namespace Go.Proofs.Ytblpjhgbckfaeaa
open Go.RowKit Go.WideMaps
/-- A value of a point. -/
structure PV where
  kd : Int
  bits : Int
  text : ByteArray
deriving DecidableEq
def PV.v (x : PV) : Value := .agg #[.int .i64 x.kd, .int .u64 x.bits, .string x.text]
def pv0 : PV := ⟨0, 0, ⟨#[]⟩⟩
/-- A map, as a datum: its block. -/
def mapE : Value → Option (DataW Unit × List MemPlace)
  | .map none => some (.nil, [])
  | .map (some b) => some (.lit (.int .u64 b), [])
  | _ => none
theorem mapE_inj {v v' : Value} {d : DataW Unit} {p p' : List MemPlace} (h : mapE v = some (d, p)) (h' : mapE v' = some (d, p')) : v = v' := by
  unfold mapE at h h'
  split at h
  · split at h'
    · rfl
    · simp at h h'
      rw [← h.1] at h'
      simp at h'
    · cases h'
  · split at h'
    · simp at h h'
      rw [← h.1] at h'
      simp at h'
    · simp at h h'
      rw [← h.1] at h'
      obtain ⟨h1, _⟩ := h'
      injection h1 with h1
      injection h1 with _ h1
      have e1 := Int.ofNat.inj h1
      subst e1
      rfl
    · cases h'
  · cases h
/-- A point's value, as a datum. -/
def valE : Value → Option (DataW Unit × List MemPlace)
  | .agg cs => match cs.toList with
    | [.int .i64 k, .int .u64 b, .string s] => some (.agg [.lit (.int .i64 k), .lit (.int .u64 b), .lit (.string s.data.toList)], [])
    | _ => none
  | _ => none
def PV.d (x : PV) : DataW Unit := .agg [.lit (.int .i64 x.kd), .lit (.int .u64 x.bits), .lit (.string x.text.data.toList)]
theorem valE_of (x : PV) : valE x.v = some (x.d, []) := rfl
theorem valE_lit {v : Value} {x : PV} {ps : List MemPlace} (h : valE v = some (x.d, ps)) : v = x.v := by
  unfold valE at h
  split at h
  · rename_i cs
    split at h
    · rename_i k b s hcs
      unfold PV.d at h
      simp at h
      obtain ⟨⟨h1, h2, h3⟩, _⟩ := h
      have h4 : s = x.text := ByteArray.ext h3
      subst h1 h2 h4
      unfold PV.v
      congr 1
      exact Array.toList_inj.1 hcs
    · cases h
  · cases h
/-- A key's inner map. -/
structure TE where
  se : ByteArray
  fi : ByteArray
  b : Nat
  pts : List (Int × PV)
def entT (x : TE) : Lit × DataW Unit := (kL x.se x.fi, .lit (.int .u64 x.b))
def entP (p : Int × PV) : Lit × DataW Unit := (.int .i64 p.1, p.2.d)
def isT (s f : ByteArray) (c : TE) : Bool := decide (c.se = s ∧ c.fi = f)
def lookT (L : List TE) (s f : ByteArray) : Option TE := L.find? (isT s f)
def lookP (P : List (Int × PV)) (t : Int) : Option PV := (P.find? fun p => p.1 == t).map (·.2)
structure TabAt (w : World) (S : Nat → Prop) (m : Nat) (L : List TE) : Prop where
  map : w.ownsMap Try.prog 47 mapE m L.length (.map (L.map entT))
  inner : ∀ x ∈ L, w.ownsMap Try.prog 2 valE x.b x.pts.length (.map (x.pts.map entP))
  sizes : ∀ x ∈ L, x.se.size ≤ maxLen ∧ x.fi.size ≤ maxLen
  apart : L.Pairwise fun a b => a.b ≠ b.b ∧ ¬ (a.se = b.se ∧ a.fi = b.fi)
  other : ∀ x ∈ L, x.b ≠ m
  here : S m
  mine : ∀ x ∈ L, S x.b
theorem atKey_lookT {L : List TE} (hL : ∀ x ∈ L, x.se.size ≤ maxLen ∧ x.fi.size ≤ maxLen) {s f : ByteArray} (hs : s.size ≤ maxLen) (hf : f.size ≤ maxLen) : (DataW.map (L.map entT)).atKey (kL s f) .nil = match lookT L s f with | some e => .lit (.int .u64 e.b) | none => .nil := by
  unfold DataW.atKey lookT
  simp only [List.find?_map]
  have : L.find? ((fun p : Lit × DataW Unit => p.1.sameKey (kL s f)) ∘ entT) = L.find? (isT s f) := by
    have : ∀ x ∈ L, ((fun p : Lit × DataW Unit => p.1.sameKey (kL s f)) ∘ entT) x = isT s f x := fun x hx => sameKey_kL (hL x hx).1 (hL x hx).2 hs hf
    clear hL
    induction L with
    | nil => rfl
    | cons y r ih =>
      rw [List.find?_cons, List.find?_cons, this y (by simp), ih fun x hx => this x (by simp [hx])]
  rw [this]
  cases L.find? (isT s f) <;> rfl
def mapOf : Option TE → Value
  | some e => .map (some e.b)
  | none => .map none
theorem zero48 (w : World) : (zeroValue 48).run Try.prog w = .ok (.map none) w := by kernel_rfl
theorem TabAt.lookup {w : World} {S : Nat → Prop} {m : Nat} {L : List TE} (h : TabAt w S m L) (s f : ByteArray) (hs : s.size ≤ maxLen) (hf : f.size ≤ maxLen) :
    (Instr.lookup 45 (.map (some m)) (kV s f) false).run Try.prog w = .ok (mapOf (lookT L s f)) w := by
  obtain ⟨v, ps, hr, hv⟩ := h.map.lookup keyed47 Try.underlying45 (zero48 w) (zd := .nil) (zp := []) rfl (key := kV s f) (kl := kL s f) (key47 s f hs hf)
  rw [atKey_lookT h.sizes hs hf] at hv
  rw [hr]
  cases hl : lookT L s f with
  | none =>
    rw [hl] at hv
    rw [mapE_inj hv (v' := .map none) (p' := []) rfl]; rfl
  | some e =>
    rw [hl] at hv
    rw [mapE_inj hv (v' := .map (some e.b)) (p' := []) rfl]; rfl
theorem atKey_lookP (P : List (Int × PV)) (t : Int) : (DataW.map (P.map entP)).atKey (.int .i64 t) pv0.d = match lookP P t with | some x => x.d | none => pv0.d := by
  unfold DataW.atKey lookP
  simp only [List.find?_map]
  have : P.find? ((fun p : Lit × DataW Unit => p.1.sameKey (.int .i64 t)) ∘ entP) = P.find? fun p => p.1 == t := by
    congr 1
    funext p
    simp only [Function.comp, entP, Lit.sameKey]
    by_cases h : p.1 = t <;> simp [h]
  rw [this]
  cases P.find? (fun p => p.1 == t) <;> rfl
theorem zero31 (w : World) : (zeroValue 31).run Try.prog w = .ok pv0.v w := by kernel_rfl
theorem inner_lookup {w : World} {b : Nat} {P : List (Int × PV)} (h : w.ownsMap Try.prog 2 valE b P.length (.map (P.map entP))) (t : Int) (ht : (Lit.int .i64 t).wf = true) :
    (Instr.lookup 48 (.map (some b)) (.int .i64 t) false).run Try.prog w = .ok (match lookP P t with | some x => x.v | none => pv0.v) w := by
  obtain ⟨v, ps, hr, hv⟩ := h.lookup (Maps.int_keyed Try.underlying2) Try.underlying48 (zero31 w) (zd := pv0.d) (zp := []) rfl (key := .int .i64 t) (kl := .int .i64 t) (Maps.keyOf_int_mk Try.underlying2 ht)
  rw [atKey_lookP] at hv
  rw [hr]
  cases hl : lookP P t with
  | none =>
    rw [hl] at hv
    rw [valE_lit hv]
  | some e =>
    rw [hl] at hv
    rw [valE_lit hv]
end Go.Proofs.Ytblpjhgbckfaeaa
