/- A cache in the heap: its columns, each a row of points; a column is sought. No condition. -/
import Derived.Test.YtfhdaihladgchaaH
namespace Go.Proofs.Ytfhdaihladgchaa
open Go.RowKit Go.WideMaps
/-- A slice at the head of its block, as a datum. -/
def rowE : Value → Option (DataW Unit × List MemPlace)
  | .slice none 0 0 => some (.nil, [])
  | .slice (some ⟨b, 0, none⟩) n c => some (.agg [.lit (.int .u64 b), .lit (.int .u64 n), .lit (.int .u64 c)], [])
  | _ => none
theorem rowE_inj {v v' : Value} {d : DataW Unit} {p p' : List MemPlace} (h : rowE v = some (d, p)) (h' : rowE v' = some (d, p')) : v = v' := by
  unfold rowE at h h'
  split at h
  · split at h'
    · rfl
    · simp at h h'
      rw [← h.1] at h'
      simp at h'
    · cases h'
  · split at h'
    · simp at h h'
      rw [← h.1] at h'
      simp at h'
    · simp at h h'
      rw [← h.1] at h'
      simp at h'
      obtain ⟨⟨h1, h2, h3⟩, _⟩ := h'
      have e1 := Int.ofNat.inj h1
      have e2 := Int.ofNat.inj h2
      have e3 := Int.ofNat.inj h3
      subst e1 e2 e3
      rfl
    · cases h'
  · cases h
structure Col where
  se : ByteArray
  fi : ByteArray
  v : Value
  l : List Pt
def rowD (v : Value) : DataW Unit := match rowE v with | some x => x.1 | none => .nil
def ent (c : Col) : Lit × DataW Unit := (kL c.se c.fi, rowD c.v)
def isCol (s f : ByteArray) (c : Col) : Bool := decide (c.se = s ∧ c.fi = f)
def look (L : List Col) (s f : ByteArray) : Option Col := L.find? (isCol s f)
theorem rowD_of {w : World} {base n : Nat} {v : Value} {xs : List Value} (h : w.ownsRow base 33 4 v n xs) : rowE v = some (rowD v, []) := by
  rcases h.2 with ⟨rfl, _⟩ | ⟨g, cap, cur, rfl, _⟩ <;> rfl
theorem kL_eq {a b s f : ByteArray} (ha : a.size ≤ maxLen) (hb : b.size ≤ maxLen) (hs : s.size ≤ maxLen) (hf : f.size ≤ maxLen) (h : kL a b = kL s f) : a = s ∧ b = f := by
  have h1 := key63 a b ha hb
  rw [h] at h1
  have h2 := keyed63.inj h1 (key63 s f hs hf)
  simp [kV] at h2
  exact h2
theorem sameKey_kL {a b s f : ByteArray} (ha : a.size ≤ maxLen) (hb : b.size ≤ maxLen) (hs : s.size ≤ maxLen) (hf : f.size ≤ maxLen) : (kL a b).sameKey (kL s f) = decide (a = s ∧ b = f) := by
  rw [Bool.eq_iff_iff]
  constructor
  · intro h
    have h1 : kL a b = kL s f := by
      unfold kL at h ⊢
      simp only [Lit.sameKey, beq_iff_eq] at h
      rw [h]
    exact decide_eq_true (kL_eq ha hb hs hf h1)
  · intro h
    obtain ⟨rfl, rfl⟩ := of_decide_eq_true h
    unfold kL
    simp [Lit.sameKey]
/-- A column of the cache. -/
def ColOk (w : World) (x : Col) : Prop := w.ownsRow 0 33 4 x.v x.l.length (ptC x.l) ∧ Rises x.l ∧ x.l ≠ [] ∧ x.se.size ≤ maxLen ∧ x.fi.size ≤ maxLen
structure CacheAt (w : World) (S : Nat → Prop) (c m : Nat) (L : List Col) (most size : Int) : Prop where
  blk : w.heap[c]? = some (.cells #[.int .i64 most, .int .i64 size, .map (some m)] 60 (0, 0))
  map : w.ownsMap Try.prog 63 rowE m L.length (.map (L.map ent))
  col : ∀ x ∈ L, ColOk w x
  apart : L.Pairwise fun a b => (∀ g, a.v.ownBlock = some g → b.v.ownBlock ≠ some g) ∧ ¬ (a.se = b.se ∧ a.fi = b.fi)
  here : S c ∧ S m
  mine : ∀ x ∈ L, ∀ g, x.v.ownBlock = some g → S g
theorem atKey_look {L : List Col} (hL : ∀ x ∈ L, x.se.size ≤ maxLen ∧ x.fi.size ≤ maxLen) {s f : ByteArray} (hs : s.size ≤ maxLen) (hf : f.size ≤ maxLen) : (DataW.map (L.map ent)).atKey (kL s f) .nil = match look L s f with | some e => rowD e.v | none => .nil := by
  unfold DataW.atKey look
  simp only [List.find?_map]
  have : L.find? ((fun p : Lit × DataW Unit => p.1.sameKey (kL s f)) ∘ ent) = L.find? (isCol s f) := by
    have : ∀ x ∈ L, ((fun p : Lit × DataW Unit => p.1.sameKey (kL s f)) ∘ ent) x = isCol s f x := fun x hx => sameKey_kL (hL x hx).1 (hL x hx).2 hs hf
    clear hL
    induction L with
    | nil => rfl
    | cons y r ih =>
      rw [List.find?_cons, List.find?_cons, this y (by simp), ih fun x hx => this x (by simp [hx])]
  rw [this]
  cases L.find? (isCol s f) <;> rfl
theorem look_mem {L : List Col} {s f : ByteArray} {e : Col} (h : look L s f = some e) : e ∈ L ∧ e.se = s ∧ e.fi = f := by
  refine ⟨List.mem_of_find?_eq_some h, ?_⟩
  have := List.find?_some h
  simpa [isCol] using this
def valOf : Option Col → Value
  | some e => e.v
  | none => .slice none 0 0
theorem zero23 (w : World) : (zeroValue 23).run Try.prog w = .ok (.slice none 0 0) w := by kernel_rfl
theorem CacheAt.lookup {w : World} {S : Nat → Prop} {c m : Nat} {L : List Col} {most size : Int} (h : CacheAt w S c m L most size) (s f : ByteArray) (hs : s.size ≤ maxLen) (hf : f.size ≤ maxLen) :
    (Instr.lookup 58 (.map (some m)) (kV s f) false).run Try.prog w = .ok (valOf (look L s f)) w := by
  obtain ⟨v, ps, hr, hv⟩ := h.map.lookup keyed63 Try.underlying58 (zero23 w) (zd := .nil) (zp := []) rfl (key := kV s f) (kl := kL s f) (key63 s f hs hf)
  rw [atKey_look (fun x hx => ⟨(h.col x hx).2.2.2.1, (h.col x hx).2.2.2.2⟩) hs hf] at hv
  rw [hr]
  cases hl : look L s f with
  | none =>
    rw [hl] at hv
    rw [rowE_inj hv (v' := .slice none 0 0) (p' := []) rfl]; rfl
  | some e =>
    rw [hl] at hv
    rw [rowE_inj hv (rowD_of (h.col e (look_mem hl).1).1)]; rfl
end Go.Proofs.Ytfhdaihladgchaa
