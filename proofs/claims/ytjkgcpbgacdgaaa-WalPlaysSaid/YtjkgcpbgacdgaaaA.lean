/- Heap laws of the prover's own: a row that need not fill its block, an append onto it, and the frame by a set of blocks. No condition. -/
import Derived.Test.YtjkgcpbgacdgaaaChecked
import Derived.WalkKit
import Derived.ProofKit
import Derived.Below
import Derived.Deep.AppendLies
import Derived.Lib.Hide
namespace Go.Proofs.Ytjkgcpbgacdgaaa
open Go.RowKit
/-- The blocks of S apart, nothing of w has turned. -/
structure Turns (S : Nat → Prop) (w w' : World) : Prop where
  os : w'.os = w.os
  tape : w'.tape = w.tape
  output : w'.output = w.output
  size : w.heap.size ≤ w'.heap.size
  block : ∀ k, k < w.heap.size → ¬ S k → w'.heap[k]? = w.heap[k]?
/-- .. and what S' has more is new. -/
def Steps (S S' : Nat → Prop) (w w' : World) : Prop := Turns S w w' ∧ ∀ k, S' k → S k ∨ w.heap.size ≤ k
theorem Turns.refl (S : Nat → Prop) (w : World) : Turns S w w := ⟨rfl, rfl, rfl, Nat.le_refl _, fun _ _ _ => rfl⟩
theorem Turns.trans {S S' : Nat → Prop} {a b c : World} (h : Turns S a b) (k : Turns S' b c) (hs : ∀ x, S' x → S x ∨ a.heap.size ≤ x) : Turns S a c :=
  ⟨k.os.trans h.os, k.tape.trans h.tape, k.output.trans h.output, Nat.le_trans h.size k.size, fun i hi hn => (k.block i (Nat.lt_of_lt_of_le hi h.size) (fun e => by
    rcases hs i e with h1 | h1
    · exact hn h1
    · omega)).trans (h.block i hi hn)⟩
theorem Steps.refl (S : Nat → Prop) (w : World) : Steps S S w w := ⟨Turns.refl _ _, fun _ h => .inl h⟩
theorem Steps.trans {S S' S'' : Nat → Prop} {a b c : World} (h : Steps S S' a b) (k : Steps S' S'' b c) : Steps S S'' a c :=
  ⟨h.1.trans k.1 h.2, fun x hx => by
    rcases k.2 x hx with h1 | h1
    · exact h.2 x h1
    · exact .inr (Nat.le_trans h.1.size h1)⟩
theorem Turns.below {S : Nat → Prop} {w w' : World} (h : Turns S w w') {B : Nat} (hB : B ≤ w.heap.size) (hS : ∀ x, S x → B ≤ x) : Below B w w' :=
  ⟨h.os, h.tape, h.output, h.size, fun k hk => h.block k (by omega) (fun e => by have := hS k e; omega)⟩
theorem Turns.of_below {S : Nat → Prop} {w w' : World} (h : Below w.heap.size w w') : Turns S w w' :=
  ⟨h.os, h.tape, h.output, h.size, fun k hk _ => h.block k hk⟩
theorem Turns.of_grown {S : Nat → Prop} {w w' : World} {row : Option Nat} (h : w.grownBy w' row) (hr : ∀ k, row = some k → S k) : Turns S w w' :=
  ⟨h.os, h.tape, h.output, h.size, fun k hk hn => h.block k hk (fun e => hn (hr k e.symm))⟩
theorem Turns.cell {S : Nat → Prop} {w w' : World} (h : Turns S w w') {a : Addr} {v : Value} (hc : w.cell? a = some v) (hn : ¬ S a.block) : w'.cell? a = some v :=
  (World.cell?_of_block (h.block a.block (World.block_lt_of_cell? w a hc) hn)).trans hc
/-- A row at the head of its block. -/
def Loose (w : World) (e : TypeId) (v : Value) (xs : List Value) : Prop :=
  (v = .slice none 0 0 ∧ xs = []) ∨ ∃ g cap cur, v = .slice (some ⟨g, 0, none⟩) xs.length cap ∧ w.heap[g]? = some (.cells cur e (0, 0)) ∧ xs.length ≤ cap ∧ cap ≤ maxLen ∧ cap ≤ cur.size ∧ cur.toList.take xs.length = xs
theorem Loose.same {w w' : World} {e : TypeId} {v : Value} {xs : List Value} (h : Loose w e v xs) (hk : ∀ g, v.ownBlock = some g → w'.heap[g]? = w.heap[g]?) : Loose w' e v xs := by
  rcases h with h | ⟨g, cap, cur, rfl, hg, r⟩
  · exact .inl h
  · exact .inr ⟨g, cap, cur, rfl, (hk g rfl).trans hg, r⟩
theorem Loose.lt {w : World} {e : TypeId} {v : Value} {xs : List Value} (h : Loose w e v xs) {g : Nat} (hg : v.ownBlock = some g) : g < w.heap.size := by
  rcases h with ⟨rfl, _⟩ | ⟨g', cap, cur, rfl, hg', r⟩
  · simp [Value.ownBlock] at hg
  · simp [Value.ownBlock] at hg
    subst hg
    rcases Nat.lt_or_ge g' w.heap.size with h | h
    · exact h
    · rw [Array.getElem?_eq_none h] at hg'; cases hg'
theorem Loose.cells {w : World} {e : TypeId} {v : Value} {xs : List Value} (h : Loose w e v xs) {g : Nat} (hg : v.ownBlock = some g) : ∃ cur fz, w.heap[g]? = some (.cells cur e fz) := by
  rcases h with ⟨rfl, _⟩ | ⟨g', cap, cur, rfl, hg', r⟩
  · simp [Value.ownBlock] at hg
  · simp [Value.ownBlock] at hg
    subst hg
    exact ⟨cur, _, hg'⟩
theorem Loose.form {w : World} {e : TypeId} {v : Value} {xs : List Value} (h : Loose w e v xs) : ∃ a cap, v = .slice a xs.length cap := by
  rcases h with ⟨rfl, rfl⟩ | ⟨g, cap, cur, rfl, _⟩
  · exact ⟨none, 0, rfl⟩
  · exact ⟨_, cap, rfl⟩
theorem run_append_loose {P : Program} (w : World) (t ty e : TypeId) (i : TypeInfo) (z : Value) (ht : P.underlying t = some (.slice e)) (hi : P.info? e = some i) (hz : i.zero = some z)
    (hsize : i.size = 1) (hzs : z.cells.size = 1) (v : Value) (xs : List Value) (hown : Loose w e v xs)
    (a : Addr) (m c : Nat) (news : List Value) (hl : news.length = m) (hnews : ∀ j u, news[j]? = some u → w.cell? (a.add j) = some u) (h1 : ∀ u ∈ news, u.oneCell' = true)
    (h63 : xs.length + m ≤ maxLen) (hbytes : (xs.length + m) * i.bytes ≤ 140737488355328) :
    ∃ v' w', (Builtin.append_ #[t, t] ty #[v, .slice (some a) m c]).run P w = .ok v' w' ∧ Loose w' e v' (xs ++ news) ∧ w.grownBy w' v.ownBlock ∧ (v'.ownBlock = v.ownBlock ∨ v'.ownBlock = some w.heap.size) := by
  have hsmall : xs.length + m ≤ 9223372036854775807 := by simp only [maxLen] at h63; omega
  have hlen : (xs ++ news).length = xs.length + m := by rw [List.length_append, hl]
  have grown : ∀ (old : Nat), old < xs.length + m → ∀ (row : Option Nat),
      Loose (w.drew.alloc (.cells (xs.toArray ++ news.toArray ++ Builtin.zeroCells z.cells (grownCap w (xs.length + m) old e - (xs.length + m))) e)) e
        (.slice (some ⟨w.heap.size, 0, none⟩) (xs.length + m) (grownCap w (xs.length + m) old e)) (xs ++ news) ∧
      w.grownBy (w.drew.alloc (.cells (xs.toArray ++ news.toArray ++ Builtin.zeroCells z.cells (grownCap w (xs.length + m) old e - (xs.length + m))) e)) row := by
    intro old ho row
    have hge := grownCap_ge w (xs.length + m) old e
    have hcm : grownCap w (xs.length + m) old e ≤ maxLen := grownCap_le_maxLen w (xs.length + m) old e h63
    refine ⟨.inr ⟨w.heap.size, _, _, by rw [hlen], heap_alloc_new w.drew _, by rw [hlen]; exact hge, hcm, ?_, ?_⟩, ⟨rfl, rfl, rfl, by simp, fun k hk _ => heap_alloc_old w.drew _ hk⟩⟩
    · simp only [Array.size_append, List.size_toArray, size_zeroCells, hzs, hl]
      omega
    · simp only [Array.toList_append, List.append_assoc]
      rw [← List.append_assoc]
      exact List.take_left
  rcases hown with ⟨rfl, rfl⟩ | ⟨g, cap, cur, rfl, hg, hnc, hcm, hcs, htake⟩
  · by_cases hm : m = 0
    · subst hm
      have hn : news = [] := List.eq_nil_of_length_eq_zero hl
      subst hn
      refine ⟨.slice none 0 0, w, ?_, .inl ⟨rfl, rfl⟩, ⟨rfl, rfl, rfl, Nat.le_refl _, fun _ _ _ => rfl⟩, Or.inl rfl⟩
      simp [Builtin.append_, run_underlying ht, sizeOf, typeInfo, hi, Builtin.lenOf, Builtin.firstCells, loadCells, loadCellsFrom]
    · have hr := run_append_nil (P := P) w t ty e i z ht hi hz a m c news (by rw [hl, hsize]; omega) hnews (by omega) (by simp at hsmall; omega) (by simp at hbytes; omega)
      have hgr := grown 0 (by simp; omega) (Value.ownBlock (.slice none 0 0))
      simp only [List.length_nil, Nat.zero_add, List.nil_append, Array.empty_append] at hgr ⊢
      exact ⟨_, _, hr, hgr.1, hgr.2, Or.inr rfl⟩
  · by_cases hroom : xs.length + m ≤ cap
    · have hr := run_append_room (P := P) w t ty e i ht hi g xs.length cap cur hg a m c news (by rw [hl, hsize]; omega) hnews h1 hroom (by rw [hsize, hl]; omega)
      refine ⟨_, _, hr, .inr ⟨g, cap, _, by rw [hlen], setRow_heap w g cur _ e _ hg, by rw [hlen]; exact hroom, hcm, ?_, ?_⟩, ⟨rfl, rfl, rfl, by simp, fun k _ hk => setRow_other w g k _ (fun e => hk (by simp [Value.ownBlock, e]))⟩, Or.inl rfl⟩
      · simp only [List.size_toArray, List.length_append, List.length_take, List.length_drop, Array.length_toList, hsize]
        omega
      · rw [hsize, Nat.mul_one, htake]
        exact List.take_left
    · have holds : ∀ j u, xs[j]? = some u → w.cell? ((⟨g, 0, none⟩ : Addr).add j) = some u := by
        intro j u hj
        rw [← htake, List.getElem?_take] at hj
        split at hj
        · have hj' : cur[j]? = some u := by simpa using hj
          by_cases h0 : j = 0
          · subst h0; simp [World.cell?, Addr.add, hg, hj']
          · simp [World.cell?, Addr.add, h0, hg, hj']
        · cases hj
      have hr := run_append_grow (P := P) w t ty e i z ht hi hz ⟨g, 0, none⟩ xs.length cap xs (by rw [hsize]; omega) holds a m c news (by rw [hl, hsize]; omega) hnews (by omega) (by omega) (growslice_fits (by omega) hbytes)
      have hgr := grown cap (by omega) (Value.ownBlock (.slice (some ⟨g, 0, none⟩) xs.length cap))
      exact ⟨_, _, hr, hgr.1, hgr.2, Or.inr rfl⟩
end Go.Proofs.Ytjkgcpbgacdgaaa
