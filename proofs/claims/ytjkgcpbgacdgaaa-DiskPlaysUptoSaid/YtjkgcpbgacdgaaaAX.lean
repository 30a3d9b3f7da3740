/- The script that comes in, read as calls; how many bytes it brings. No condition. -/
import Derived.Test.YtjkgcpbgacdgaaaAW
import Derived.Deep.Slices
namespace Go.Proofs.Ytjkgcpbgacdgaaa
open Go.RowKit Go.Sort Go.Deep Go.WideShapes Go.ChangeShapes
structure OpX where
  kind : Int
  n : Int
  nm : ByteArray
  to : ByteArray
  a : Option Addr
  cap : Nat
  l : List UInt8
instance : Inhabited OpX := ⟨⟨0, 0, ⟨#[]⟩, ⟨#[]⟩, none, 0, []⟩⟩
/-- A call of the script, as it lies in memory. -/
def OpAt (W : World) (b : Addr) (i : Nat) (x : OpX) : Prop :=
  W.cell? (b.add (i * 5)) = some (.int .i64 x.kind) ∧ W.cell? (b.add (i * 5 + 1)) = some (.int .i64 x.n) ∧ W.cell? (b.add (i * 5 + 2)) = some (.string x.nm) ∧ W.cell? (b.add (i * 5 + 3)) = some (.string x.to) ∧ W.cell? (b.add (i * 5 + 4)) = some (.slice x.a x.l.length x.cap) ∧
  x.nm.size ≤ maxLen ∧ x.to.size ≤ maxLen ∧ x.n < 2 ^ 63 ∧ ∀ S, (∀ z, S z → W.heap.size ≤ z) → SrcAt W S (.slice x.a x.l.length x.cap) (Lib.byteCells x.l)
def tot (X : Nat → OpX) : Nat → Nat
  | 0 => 0
  | k + 1 => tot X k + ((X k).l.length + 1)
theorem tot_le (X : Nat → OpX) {k n : Nat} (h : k ≤ n) : tot X k ≤ tot X n := by
  induction n with
  | zero => have : k = 0 := by omega
            subst this; exact Nat.le_refl _
  | succ n ih =>
    by_cases hk : k = n + 1
    · subst hk; exact Nat.le_refl _
    · have := ih (by omega)
      simp only [tot]; omega
set_option maxRecDepth 100000 in
theorem bytes_src2 {H : Type} {enc : TypeId × Value → H} {W : World} {u : Value} {fuel : Nat} {y : DataW H × List MemPlace}
    (hf : DataW.trod enc Try.prog W 0 (fun _ => true) true fuel 23 [u] = some y) :
    ∃ a cap, ∃ l : List UInt8, u = .slice a l.length cap ∧ l.length ≤ Rows.uptoBulk y.1 ∧ ∀ S, (∀ x, S x → W.heap.size ≤ x) → SrcAt W S (.slice a l.length cap) (Lib.byteCells l) := by
  rcases open_ints Try.underlying23 Try.underlying5 (by kernel_rfl) hf with ⟨hcs, _⟩ | ⟨b, l, c, zs, hcs, _, hl, hm, hz, hd, hcell, hwz⟩
  · simp at hcs
    subst hcs
    exact ⟨none, 0, [], rfl, Nat.zero_le _, fun S _ => .inl ⟨rfl, rfl⟩⟩
  · simp at hcs
    subst hcs
    simp only [if_true] at hz
    have hzl : (zs.take l).length = l := by simp; omega
    have hml : ((zs.take l).map (fun z => UInt8.ofNat z.toNat)).length = l := by rw [List.length_map, hzl]
    have hbl : (Lib.byteCells ((zs.take l).map (fun z => UInt8.ofNat z.toNat))).length = l := by rw [Lib.byteCells_length, hml]
    have hblk : Lib.byteCells ((zs.take l).map (fun z => UInt8.ofNat z.toNat)) ≠ [] → b.block < W.heap.size := fun hne => by
      have h0 : 0 < l := by
        rcases Nat.eq_zero_or_pos l with h | h
        · exact absurd (List.eq_nil_of_length_eq_zero (by rw [hbl, h])) hne
        · exact h
      have h1 := hcell 0 (by omega)
      have h2 := World.block_lt_of_cell? W _ h1
      simpa [add_block] using h2
    refine ⟨some b, c, (zs.take l).map (fun z => UInt8.ofNat z.toNat), by rw [hml], ?_, fun S hS => .inr ⟨b, c, by rw [hml, hbl], by rw [hbl]; exact hl, hblk, fun hne hs => by have := hS _ hs; have := hblk hne; omega, ?_, ?_⟩⟩
    · rw [hml]
      rw [hd]
      simp only [Rows.uptoBulk, bulk_lits, List.length_take]
      omega
    · intro j u hj
      simp only [Lib.byteCells, List.map_map, List.getElem?_map, Option.map_eq_some_iff] at hj
      obtain ⟨z, hz1, rfl⟩ := hj
      rw [List.getElem?_take] at hz1
      split at hz1
      · have h1 := hcell j (by omega)
        have hzz : zs.getD j 0 = z := by simp [List.getD, hz1]
        rw [hzz] at h1
        have hw := hwz z (List.mem_of_getElem? hz1)
        have hw' : 0 ≤ z ∧ z ≤ 255 := by simpa [Lit.wf, IntKind.min, IntKind.max, IntKind.signed, IntKind.bits] using hw
        rw [h1]
        simp only [Function.comp]
        have : ((UInt8.ofNat z.toNat).toNat : Int) = z := by
          rw [UInt8.toNat_ofNat']
          omega
        rw [this]
      · cases hz1
    · intro u hu
      obtain ⟨z, _, rfl⟩ := List.mem_map.1 hu
      rfl
theorem cells56 : Try.prog.cellsOf 56 = 5 := by kernel_rfl
theorem cells3 : Try.prog.cellsOf 3 = 1 := by kernel_rfl
theorem cells9 : Try.prog.cellsOf 9 = 1 := by kernel_rfl
theorem cells23 : Try.prog.cellsOf 23 = 1 := by kernel_rfl
theorem bulkAll_append {H : Type} : ∀ A B : List (DataW H), Rows.uptoBulkAll (A ++ B) = Rows.uptoBulkAll A + Rows.uptoBulkAll B
  | [], B => by simp [Rows.uptoBulkAll]
  | x :: A, B => by simp only [List.cons_append, Rows.uptoBulkAll, bulkAll_append A B]; omega
theorem bulk_tot {H : Type} (X : Nat → OpX) (D : Nat → DataW H) : ∀ m, (∀ i, i < m → (X i).l.length + 1 ≤ Rows.uptoBulk (D i)) → tot X m ≤ Rows.uptoBulkAll ((List.range m).map D)
  | 0, _ => Nat.zero_le _
  | m + 1, h => by
    have ih := bulk_tot X D m fun i hi => h i (by omega)
    have h1 := h m (by omega)
    rw [List.range_succ, List.map_append, bulkAll_append]
    simp only [List.map_cons, List.map_nil, Rows.uptoBulkAll, tot]
    omega
set_option maxRecDepth 100000 in
theorem script_open {H : Type} {enc : TypeId × Value → H} {W : World} {base : Nat} {v : Value} {d : DataW H} {p : List MemPlace}
    (h : DataW.Trod enc Try.prog W 0 (fun _ => true) true 51 v d p) (o : Value.okWide Try.prog W .any base 51 v) :
    ∃ a len cap, ∃ X : Nat → OpX, v = .slice a len cap ∧ len ≤ cap ∧ len ≤ maxLen ∧ (∀ i, i < len → ∃ b, a = some b ∧ OpAt W b i (X i)) ∧ tot X len ≤ Rows.uptoBulk d := by
  obtain ⟨a, len, cap, rfl⟩ := okWide_slice Try.underlying51 o
  obtain ⟨fuel, hf⟩ := h
  rcases open_slice Try.underlying51 hf with ⟨hcs, _⟩ | ⟨b, l, c, m, n, D, Pl, hcs, _, hl, hm, hmm, hd, hx⟩
  · simp [Value.cells] at hcs
    obtain ⟨rfl, rfl, rfl⟩ := hcs
    exact ⟨none, 0, 0, fun _ => default, rfl, Nat.le_refl _, Nat.zero_le _, fun i hi => absurd hi (by omega), Nat.zero_le _⟩
  · simp [Value.cells] at hcs
    obtain ⟨rfl, rfl, rfl⟩ := hcs
    simp only [if_true] at hmm
    subst hmm
    simp only [Prod.mk.injEq] at hd
    obtain ⟨rfl, _⟩ := hd
    have hy : ∀ i, i < m → ∃ x : OpX, OpAt W b i x ∧ x.l.length + 1 ≤ Rows.uptoBulk (D i) := by
      intro i hi
      obtain ⟨cs', h1, h2⟩ := hx i hi
      rw [cells56] at h1
      obtain ⟨_, hcl, hcell⟩ := World.cells?_some h1
      obtain ⟨xs, k, _, hxx, _, hlen, hg⟩ := DataW.trod_struct Try.underlying56 h2
      match cs', hcl, xs, hlen with
      | [c0, c1, c2, c3, c4], _, [y0, y1, y2, y3, y4], _ =>
        have e0 : DataW.trod enc Try.prog W 0 (fun _ => true) true k 3 [c0] = some y0 := by simpa [cells3] using hg 0 _ rfl
        have e1 : DataW.trod enc Try.prog W 0 (fun _ => true) true k 3 [c1] = some y1 := by simpa [cells3] using hg 1 _ rfl
        have e2 : DataW.trod enc Try.prog W 0 (fun _ => true) true k 9 [c2] = some y2 := by simpa [cells9] using hg 2 _ rfl
        have e3 : DataW.trod enc Try.prog W 0 (fun _ => true) true k 9 [c3] = some y3 := by simpa [cells9] using hg 3 _ rfl
        have e4 : DataW.trod enc Try.prog W 0 (fun _ => true) true k 23 [c4] = some y4 := by simpa [cells23] using hg 4 _ rfl
        obtain ⟨z0, g0, _⟩ := DataW.trod_int Try.underlying3 e0
        obtain ⟨z1, g1, _, w1⟩ := DataW.trod_int Try.underlying3 e1
        obtain ⟨s2, g2, _, w2⟩ := DataW.trod_string Try.underlying9 e2
        obtain ⟨s3, g3, _, w3⟩ := DataW.trod_string Try.underlying9 e3
        simp at g0 g1 g2 g3
        subst g0 g1 g2 g3
        obtain ⟨a4, cap4, l4, hu4, hb4, hs4⟩ := bytes_src2 (u := c4) (by simpa using e4)
        subst hu4
        refine ⟨⟨z0, z1, s2, s3, a4, cap4, l4⟩, ⟨?_, ?_, ?_, ?_, ?_, w2, w3, ?_, hs4⟩, ?_⟩
        · have := hcell 0 (by omega); rw [Go.Deep.add_add] at this; simpa using this
        · have := hcell 1 (by omega); rw [Go.Deep.add_add] at this; simpa using this
        · have := hcell 2 (by omega); rw [Go.Deep.add_add] at this; simpa using this
        · have := hcell 3 (by omega); rw [Go.Deep.add_add] at this; simpa using this
        · have := hcell 4 (by omega); rw [Go.Deep.add_add] at this; simpa using this
        · have h9 : -9223372036854775808 ≤ z1 ∧ z1 ≤ 9223372036854775807 := by simpa [Lit.wf, IntKind.min, IntKind.max, IntKind.signed, IntKind.bits] using w1
          show z1 < 2 ^ 63
          omega
        · have h9 : D i = .agg [y0.1, y1.1, y2.1, y3.1, y4.1] := by
            have := congrArg Prod.fst hxx
            simpa using this
          rw [h9]
          simp only [Rows.uptoBulk, Rows.uptoBulkAll]
          show l4.length + 1 ≤ _
          omega
    obtain ⟨f, hf'⟩ := choose_lt hy
    refine ⟨some b, len, m, f, rfl, hl, by unfold maxLen at *; omega, fun i hi => ⟨b, rfl, (hf' i (by omega)).1⟩, ?_⟩
    simp only [Rows.uptoBulk]
    have := bulk_tot f D len fun i hi => (hf' i (by omega)).2
    omega
end Go.Proofs.Ytjkgcpbgacdgaaa
