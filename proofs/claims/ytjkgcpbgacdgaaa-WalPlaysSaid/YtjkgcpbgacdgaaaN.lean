/- Bytes that come in; files as they are left by appends; a fuse. No condition. -/
import Derived.Test.YtjkgcpbgacdgaaaM
import Derived.Test.YtjkgcpbgacdgaaaJ
namespace Go.Proofs.Ytjkgcpbgacdgaaa
open Go.RowKit Go.Sort Go.Deep Go.WideShapes Go.ChangeShapes Go.Joins
set_option maxRecDepth 100000 in
theorem bytes_src {H : Type} {enc : TypeId × Value → H} {W : World} {base : Nat} {v : Value} {d : DataW H} {p : List MemPlace}
    (h : DataW.Trod enc Try.prog W 0 (fun _ => true) true 23 v d p) (o : Value.okWide Try.prog W .any base 23 v) :
    ∃ a cap, ∃ l : List UInt8, v = .slice a l.length cap ∧ l.length ≤ cap ∧ l.length ≤ maxLen ∧ ∀ S, (∀ x, S x → W.heap.size ≤ x) → SrcAt W S (.slice a l.length cap) (Lib.byteCells l) := by
  obtain ⟨a, len, cap, rfl⟩ := okWide_slice Try.underlying23 o
  obtain ⟨fuel, hf⟩ := h
  rcases open_ints Try.underlying23 Try.underlying5 (by kernel_rfl) hf with ⟨hcs, _⟩ | ⟨b, l, c, zs, hcs, _, hl, hm, hz, hd, hcell, hwz⟩
  · simp [Value.cells] at hcs
    obtain ⟨rfl, rfl, rfl⟩ := hcs
    exact ⟨none, 0, [], rfl, Nat.le_refl _, Nat.zero_le _, fun S _ => .inl ⟨rfl, rfl⟩⟩
  · simp [Value.cells] at hcs
    obtain ⟨rfl, rfl, rfl⟩ := hcs
    simp only [if_true] at hz
    have hb : b.block < W.heap.size := by
      simp only [Value.okWide, Try.underlying23, Cell.okWide, Cell.ok, World.has] at o
      obtain ⟨_, _, _, _, row, cells, hsh, _⟩ := o
      unfold World.shape? at hsh
      rcases Nat.lt_or_ge b.block W.heap.size with h | h
      · exact h
      · rw [Array.getElem?_eq_none h] at hsh; cases hsh
    have hzl : (zs.take len).length = len := by simp; omega
    have hml : ((zs.take len).map (fun z => UInt8.ofNat z.toNat)).length = len := by rw [List.length_map, hzl]
    have hbl : (Lib.byteCells ((zs.take len).map (fun z => UInt8.ofNat z.toNat))).length = len := by rw [Lib.byteCells_length, hml]
    refine ⟨some b, cap, (zs.take len).map (fun z => UInt8.ofNat z.toNat), by rw [hml], by rw [hml]; exact hl, by rw [hml]; omega, fun S hS => .inr ⟨b, cap, by rw [hml, hbl], by rw [hbl]; exact hl, fun _ => hb, fun _ hs => by have := hS _ hs; omega, ?_, ?_⟩⟩
    · intro j u hj
      simp only [Lib.byteCells, List.map_map, List.getElem?_map, Option.map_eq_some_iff] at hj
      obtain ⟨z, hz1, rfl⟩ := hj
      rw [List.getElem?_take] at hz1
      split at hz1
      · have h1 := hcell j (by omega)
        have hzz : zs.getD j 0 = z := by simp [List.getD, hz1]
        rw [hzz] at h1
        have hw := hwz z (List.mem_of_getElem? hz1)
        have hw' : 0 ≤ z ∧ z ≤ 255 := by simpa [Lit.wf, IntKind.min, IntKind.max, IntKind.signed, IntKind.bits] using hw
        rw [h1]
        simp only [Function.comp]
        have : ((UInt8.ofNat z.toNat).toNat : Int) = z := by
          rw [UInt8.toNat_ofNat']
          omega
        rw [this]
      · cases hz1
    · intro u hu
      obtain ⟨z, _, rfl⟩ := List.mem_map.1 hu
      rfl
theorem Good.nil : Good [] := fun _ he => nomatch he
theorem byteCells_take (l : List UInt8) (j : Nat) : (Lib.byteCells l).take j = Lib.byteCells (l.take j) := by simp [Lib.byteCells, List.map_take]
theorem byteCells_append (l k : List UInt8) : Lib.byteCells l ++ Lib.byteCells k = Lib.byteCells (l ++ k) := by simp [Lib.byteCells]
/-- One append onto a disk of one file at most. -/
theorem One.addG {L : List Ent} (h : One L) (hG : Good L) (f : Nat) (v : Value) (l : List UInt8) (hl : lens L + l.length ≤ 140737488355328) : One (addE L nmA f v (Lib.byteCells l)) ∧ Good (addE L nmA f v (Lib.byteCells l)) ∧ lens (addE L nmA f v (Lib.byteCells l)) = lens L + l.length := by
  rcases h with rfl | ⟨e, rfl, he⟩
  · refine ⟨.inr ⟨_, rfl, rfl⟩, ?_, by simp [addE, look, insE, lens, Lib.byteCells]⟩
    intro x hx
    simp [addE, look, insE] at hx
    subst hx
    refine ⟨by show nmA.size ≤ 64; decide, ⟨l, rfl⟩, ?_, by simp, by simp⟩
    simp [Lib.byteCells]; simp [lens] at hl; omega
  · obtain ⟨h1, ⟨k, hk⟩, h3, h4, h5⟩ := hG e (by simp)
    have hL : addE [e] nmA f v (Lib.byteCells l) = [⟨e.name, e.f, v, e.bs ++ Lib.byteCells l, e.syn⟩] := by
      unfold addE
      rw [look_one e nmA he]
      simp [setF, he]
    rw [hL]
    refine ⟨.inr ⟨_, rfl, he⟩, ?_, by simp [lens, Lib.byteCells]⟩
    intro x hx
    simp at hx
    subst hx
    have hll : (e.bs ++ Lib.byteCells l).length = e.bs.length + l.length := by simp [Lib.byteCells]
    refine ⟨h1, ⟨k ++ l, by show e.bs ++ _ = _; rw [hk, byteCells_append]⟩, ?_, h4, ?_⟩
    · show (e.bs ++ Lib.byteCells l).length ≤ _
      rw [hll]; simp [lens] at hl; omega
    · show e.syn ≤ ((e.bs ++ Lib.byteCells l).length : Nat)
      rw [hll]; omega
theorem Good.bytes {L : List Ent} (h : Good L) : Bytes L := fun e he => by
  obtain ⟨_, ⟨l, hl⟩, h3, _⟩ := h e he
  exact ⟨l, hl, by rw [hl] at h3; simpa [Lib.byteCells] using h3⟩
/-- A restart of a disk of one file at most. -/
theorem One.rst {L : List Ent} (h : One L) (hG : Good L) (cs : List UInt8) : One (rst cs L) ∧ Good (rst cs L) ∧ lens (rst cs L) ≤ lens L := by
  rcases h with rfl | ⟨e, rfl, he⟩
  · exact ⟨.inl rfl, Good.nil, Nat.le_refl _⟩
  · obtain ⟨h1, ⟨k, hk⟩, h3, h4, h5⟩ := hG e (by simp)
    have hle := rstK_le e (cs.headD 0).toNat h4 h5
    refine ⟨.inr ⟨_, rfl, he⟩, ?_, by simp only [Ytjkgcpbgacdgaaa.rst, lens_one]; show (e.bs.take _).length ≤ _; rw [List.length_take]; omega⟩
    intro x hx
    simp only [Ytjkgcpbgacdgaaa.rst, List.mem_singleton] at hx
    subst hx
    refine ⟨h1, ⟨k.take (rstK e (cs.headD 0).toNat), by show e.bs.take _ = _; rw [hk, byteCells_take]⟩, by show (e.bs.take _).length ≤ _; rw [List.length_take]; omega, by show (0 : Int) ≤ ((rstK e _ : Nat) : Int); omega, by show ((rstK e _ : Nat) : Int) ≤ ((e.bs.take _).length : Nat); rw [List.length_take]; omega⟩
def nmN : ByteArray := ⟨#[110, 111, 32, 115, 117, 99, 104, 32, 102, 105, 108, 101]⟩
def nmE : ByteArray := ⟨#[]⟩
theorem One.lookN {L : List Ent} (h : One L) : look L nmN = none := by
  rcases h with rfl | ⟨e, rfl, he⟩
  · rfl
  · unfold look
    simp [he, nmA, nmN]
def fzF (n k : Nat) : Int := if k ≤ n then (n : Int) - k else 0
def fzD (n k : Nat) : Bool := decide (n < k)
end Go.Proofs.Ytjkgcpbgacdgaaa
