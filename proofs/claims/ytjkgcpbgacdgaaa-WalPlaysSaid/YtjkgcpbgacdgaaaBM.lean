/- A list of entries that comes in. No condition. -/
import Derived.Test.YtjkgcpbgacdgaaaBL
import Derived.Deep.Slices
namespace Go.Proofs.Ytjkgcpbgacdgaaa
open Go.RowKit Go.Sort Go.Deep Go.WideShapes Go.ChangeShapes
theorem src_srcN {w : World} {S : Nat → Prop} {v : Value} {xs : List Value} (h : SrcAt w S v xs) : SrcN w 1 v xs.length xs ∧ (∀ u ∈ xs, u.oneCell' = true) ∧ (xs ≠ [] → ∀ g, v.ownBlock = some g → g < w.heap.size) := by
  rcases h with ⟨rfl, rfl⟩ | ⟨ad, c, rfl, _, h1, _, h2, h3⟩
  · exact ⟨⟨rfl, .inl ⟨rfl, rfl⟩⟩, (fun u hu => nomatch hu), fun h => absurd rfl h⟩
  · refine ⟨⟨by simp, .inr ⟨ad, c, rfl, h2, h3⟩⟩, h3, fun hne g hg => ?_⟩
    have : ad.block = g := by simpa [Value.ownBlock] using hg
    rw [← this]; exact h1 hne
set_option maxRecDepth 100000 in
theorem bytes_src3 {H : Type} {enc : TypeId × Value → H} {W : World} {u : Value} {fuel : Nat} {y : DataW H × List MemPlace}
    (hf : DataW.trod enc Try.prog W 0 (fun _ => true) true fuel 23 [u] = some y) :
    ∃ a cap, ∃ l : List UInt8, u = .slice a l.length cap ∧ ∀ S, (∀ x, S x → W.heap.size ≤ x) → SrcAt W S (.slice a l.length cap) (Lib.byteCells l) := by
  rcases open_ints Try.underlying23 Try.underlying5 (by kernel_rfl) hf with ⟨hcs, _⟩ | ⟨b, l, c, zs, hcs, _, hl, hm, hz, hd, hcell, hwz⟩
  · simp at hcs
    subst hcs
    exact ⟨none, 0, [], rfl, fun S _ => .inl ⟨rfl, rfl⟩⟩
  · simp at hcs
    subst hcs
    simp only [if_true] at hz
    have hzl : (zs.take l).length = l := by simp; omega
    have hml : ((zs.take l).map (fun z => UInt8.ofNat z.toNat)).length = l := by rw [List.length_map, hzl]
    have hbl : (Lib.byteCells ((zs.take l).map (fun z => UInt8.ofNat z.toNat))).length = l := by rw [Lib.byteCells_length, hml]
    have hblk : Lib.byteCells ((zs.take l).map (fun z => UInt8.ofNat z.toNat)) ≠ [] → b.block < W.heap.size := fun hne => by
      have h0 : 0 < l := by
        rcases Nat.eq_zero_or_pos l with h | h
        · exact absurd (List.eq_nil_of_length_eq_zero (by rw [hbl, h])) hne
        · exact h
      have h1 := hcell 0 (by omega)
      have h2 := World.block_lt_of_cell? W _ h1
      simpa [add_block] using h2
    refine ⟨some b, c, (zs.take l).map (fun z => UInt8.ofNat z.toNat), by rw [hml], fun S hS => .inr ⟨b, c, by rw [hml, hbl], by rw [hbl]; exact hl, hblk, fun hne hs => by have := hS _ hs; have := hblk hne; omega, ?_, ?_⟩⟩
    · intro j u hj
      simp only [Lib.byteCells, List.map_map, List.getElem?_map, Option.map_eq_some_iff] at hj
      obtain ⟨z, hz1, rfl⟩ := hj
      rw [List.getElem?_take] at hz1
      split at hz1
      · have h1 := hcell j (by omega)
        have hzz : zs.getD j 0 = z := by simp [List.getD, hz1]
        rw [hzz] at h1
        have hw := hwz z (List.mem_of_getElem? hz1)
        have hw' : 0 ≤ z ∧ z ≤ 255 := by simpa [Lit.wf, IntKind.min, IntKind.max, IntKind.signed, IntKind.bits] using hw
        rw [h1]
        simp only [Function.comp]
        have : ((UInt8.ofNat z.toNat).toNat : Int) = z := by
          rw [UInt8.toNat_ofNat']
          omega
        rw [this]
      · cases hz1
    · intro u hu
      obtain ⟨z, _, rfl⟩ := List.mem_map.1 hu
      rfl
structure EntX where
  a : Option Addr
  cap : Nat
  l : List UInt8
instance : Inhabited EntX := ⟨⟨none, 0, []⟩⟩
def EntX.v (x : EntX) : Value := .slice x.a x.l.length x.cap
/-- An entry of a list that came in. -/
def EntAt (W : World) (a : Option Addr) (i : Nat) (x : EntX) : Prop :=
  ∃ b off, a = some ⟨b, off, none⟩ ∧ b < W.heap.size ∧ W.cell? ⟨b, off + i, none⟩ = some (.slice x.a x.l.length x.cap) ∧
  SrcN W 1 (.slice x.a x.l.length x.cap) (Lib.byteCells x.l).length (Lib.byteCells x.l) ∧ (∀ u ∈ Lib.byteCells x.l, u.oneCell' = true) ∧ (Lib.byteCells x.l ≠ [] → ∀ g, (Value.slice x.a x.l.length x.cap).ownBlock = some g → g < W.heap.size)
theorem cells23' : Try.prog.cellsOf 23 = 1 := by kernel_rfl
set_option maxRecDepth 100000 in
theorem entries_open {H : Type} {enc : TypeId × Value → H} {W : World} {base : Nat} {v : Value} {d : DataW H} {p : List MemPlace}
    (h : DataW.Trod enc Try.prog W 0 (fun _ => true) true 33 v d p) (o : Value.okWide Try.prog W .any base 33 v) :
    ∃ a len cap, ∃ X : Nat → EntX, v = .slice a len cap ∧ len ≤ cap ∧ len ≤ maxLen ∧ ∀ i, i < len → EntAt W a i (X i) := by
  obtain ⟨a, len, cap, rfl⟩ := okWide_slice Try.underlying33 o
  obtain ⟨fuel, hf⟩ := h
  rcases open_slice Try.underlying33 hf with ⟨hcs, _⟩ | ⟨b, l, c, m, n, D, Pl, hcs, _, hl, hm, hmm, hd, hx⟩
  · simp [Value.cells] at hcs
    obtain ⟨rfl, rfl, rfl⟩ := hcs
    exact ⟨none, 0, 0, fun _ => default, rfl, Nat.le_refl _, Nat.zero_le _, fun i hi => absurd hi (by omega)⟩
  · simp [Value.cells] at hcs
    obtain ⟨rfl, rfl, rfl⟩ := hcs
    simp only [if_true] at hmm
    subst hmm
    have hy : ∀ i, i < m → ∃ x : EntX, EntAt W (some b) i x := by
      intro i hi
      obtain ⟨cs', h1, h2⟩ := hx i hi
      rw [cells23'] at h1
      obtain ⟨_, hcl, hcell⟩ := World.cells?_some h1
      match cs', hcl with
      | [c0], _ =>
        obtain ⟨a4, cap4, l4, hu4, hs4⟩ := bytes_src3 (u := c0) h2
        subst hu4
        have h3 := hcell 0 (by omega)
        rw [Go.Deep.add_add] at h3
        have h3' : W.cell? (b.add i) = some (.slice a4 l4.length cap4) := by simpa using h3
        have hsp : b.spot = none := by
          obtain ⟨cs0, k1, _⟩ := hx 0 (by omega)
          rw [cells23'] at k1
          obtain ⟨_, kl, kc⟩ := World.cells?_some k1
          have k2 := kc 0 (by omega)
          rw [Go.Deep.add_add] at k2
          match cs0, kl with
          | [c0'], _ =>
          have k3 := World.cell?_spot (v := c0') (by simpa using k2)
          simpa [Addr.add] using k3
        obtain ⟨bb, off, spot⟩ := b
        simp only at hsp
        subst hsp
        have hb := World.block_lt_of_cell? W _ h3'
        obtain ⟨g1, g2, g3⟩ := src_srcN (hs4 (fun x => W.heap.size ≤ x) fun _ h => h)
        exact ⟨⟨a4, cap4, l4⟩, bb, off, rfl, by simpa [add_block] using hb, (by rw [← h3']; congr 1; unfold Addr.add; split <;> simp_all), g1, g2, g3⟩
    obtain ⟨f, hf'⟩ := choose_lt hy
    exact ⟨some b, len, m, f, rfl, hl, by unfold maxLen at *; omega, fun i hi => hf' i (by omega)⟩
end Go.Proofs.Ytjkgcpbgacdgaaa
