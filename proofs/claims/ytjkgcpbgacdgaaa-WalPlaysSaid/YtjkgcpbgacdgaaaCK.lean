/- A script that comes in, and whether it is small. Condition: the form's reach. -/
import Derived.Test.YtjkgcpbgacdgaaaBN
import Derived.SizedLaws
import Derived.Deep.Slices
namespace Go.Proofs.Ytjkgcpbgacdgaaa
open Go.RowKit Go.Sort Go.Deep Go.WideShapes Go.ChangeShapes
theorem weightsAll_mem {H : Type} {P : Program} {e : TypeId} : ∀ {L : List (DataW H)} {i : Nat} {d : DataW H}, L[i]? = some d → ∀ n ∈ d.weights P e, n ∈ DataW.weightsAll P e L
  | x :: L, 0, d, h, n, hn => by
    simp only [List.getElem?_cons_zero, Option.some.injEq] at h
    subst h
    simp only [DataW.weightsAll, List.mem_append]
    exact .inl hn
  | x :: L, i + 1, d, h, n, hn => by
    simp only [List.getElem?_cons_succ] at h
    simp only [DataW.weightsAll, List.mem_append]
    exact .inr (weightsAll_mem h n hn)
  | [], _, _, h, _, _ => by simp at h
theorem bytes5' : Try.prog.bytesOf 5 = 1 := by kernel_rfl
set_option maxRecDepth 100000 in
theorem bytes_src4 {H : Type} {enc : TypeId × Value → H} {W : World} {u : Value} {fuel : Nat} {y : DataW H × List MemPlace}
    (hf : DataW.trod enc Try.prog W 0 (fun _ => true) true fuel 23 [u] = some y) (hw : ∀ n ∈ y.1.weights Try.prog 23, n ≤ reachBytes) :
    ∃ a cap, ∃ l : List UInt8, u = .slice a l.length cap ∧ l.length ≤ reachBytes ∧ ∀ S, (∀ x, S x → W.heap.size ≤ x) → SrcAt W S (.slice a l.length cap) (Lib.byteCells l) := by
  obtain ⟨a, cap, l, rfl, hs⟩ := bytes_src3 hf
  refine ⟨a, cap, l, rfl, ?_, hs⟩
  rcases open_ints Try.underlying23 Try.underlying5 (by kernel_rfl) hf with ⟨hcs, _⟩ | ⟨b, l', c, zs, hcs, _, hl, hm, hz, hd, hcell, hwz⟩
  · simp at hcs
    rw [hcs.2.1]; simp
  · simp at hcs
    obtain ⟨_, h2, _⟩ := hcs
    simp only [if_true] at hz
    have h9 := hw (((zs.take l').length + (zs.drop l').length) * Try.prog.bytesOf 5) (by
      rw [hd]
      simp [DataW.weights, Try.underlying23, lits])
    rw [bytes5'] at h9
    rw [h2]
    simp at h9
    omega
structure OpY where
  kind : Int
  n : Int
  a : Option Addr
  cap : Nat
  l : List UInt8
instance : Inhabited OpY := ⟨⟨0, 0, none, 0, []⟩⟩
/-- A call of the script, as it lies in memory. -/
def OpZ (W : World) (b : Addr) (i : Nat) (x : OpY) : Prop :=
  W.cell? (b.add (i * 3)) = some (.int .i64 x.kind) ∧ W.cell? (b.add (i * 3 + 1)) = some (.int .i64 x.n) ∧ W.cell? (b.add (i * 3 + 2)) = some (.slice x.a x.l.length x.cap) ∧
  x.l.length ≤ reachBytes ∧ (-9223372036854775808 ≤ x.n ∧ x.n ≤ 9223372036854775807) ∧ ∀ S, (∀ z, S z → W.heap.size ≤ z) → SrcAt W S (.slice x.a x.l.length x.cap) (Lib.byteCells x.l)
theorem cells70 : Try.prog.cellsOf 70 = 3 := by kernel_rfl
theorem cells3' : Try.prog.cellsOf 3 = 1 := by kernel_rfl
set_option maxRecDepth 100000 in
theorem script_openY {H : Type} {enc : TypeId × Value → H} {W : World} {base : Nat} {v : Value} {d : DataW H} {p : List MemPlace}
    (h : DataW.Trod enc Try.prog W 0 (fun _ => true) true 73 v d p) (o : Value.okWide Try.prog W .any base 73 v) (hsz : (DataW.weightsEach Try.prog [73] [d]).all (· ≤ reachBytes) = true) :
    ∃ a len cap, ∃ X : Nat → OpY, v = .slice a len cap ∧ len ≤ cap ∧ len ≤ maxLen ∧ ∀ i, i < len → ∃ b off, a = some ⟨b, off, none⟩ ∧ b < W.heap.size ∧ OpZ W ⟨b, off, none⟩ i (X i) := by
  obtain ⟨a, len, cap, rfl⟩ := okWide_slice Try.underlying73 o
  obtain ⟨fuel, hf⟩ := h
  rcases open_slice Try.underlying73 hf with ⟨hcs, _⟩ | ⟨b, l, c, m, n, D, Pl, hcs, _, hl, hm, hmm, hd, hx⟩
  · simp [Value.cells] at hcs
    obtain ⟨rfl, rfl, rfl⟩ := hcs
    exact ⟨none, 0, 0, fun _ => default, rfl, Nat.le_refl _, Nat.zero_le _, fun i hi => absurd hi (by omega)⟩
  · simp [Value.cells] at hcs
    obtain ⟨rfl, rfl, rfl⟩ := hcs
    simp only [if_true] at hmm
    subst hmm
    simp only [Prod.mk.injEq] at hd
    obtain ⟨rfl, _⟩ := hd
    have hwt : ∀ i, i < len → ∀ k ∈ (D i).weights Try.prog 70, k ≤ reachBytes := fun i hi k hk => by
      have h1 : k ∈ DataW.weightsAll Try.prog 70 ((List.range len).map D) := weightsAll_mem (by rw [List.getElem?_map, List.getElem?_range hi]; rfl) k hk
      have h2 := List.all_eq_true.1 hsz k (DataW.weights_mem_each (j := 0) rfl rfl k (by
        simp only [DataW.weights, Try.underlying73, List.mem_cons, List.mem_append]
        exact .inr (.inl h1)))
      simpa using h2
    have hy : ∀ i, i < len → ∃ x : OpY, OpZ W b i x := by
      intro i hi
      obtain ⟨cs', h1, h2⟩ := hx i (by omega)
      rw [cells70] at h1
      obtain ⟨_, hcl, hcell⟩ := World.cells?_some h1
      obtain ⟨xs, k, _, hxx, _, hlen, hg⟩ := DataW.trod_struct Try.underlying70 h2
      match cs', hcl, xs, hlen with
      | [c0, c1, c2], _, [y0, y1, y2], _ =>
        have e0 : DataW.trod enc Try.prog W 0 (fun _ => true) true k 3 [c0] = some y0 := by simpa [cells3'] using hg 0 _ rfl
        have e1 : DataW.trod enc Try.prog W 0 (fun _ => true) true k 3 [c1] = some y1 := by simpa [cells3'] using hg 1 _ rfl
        have e2 : DataW.trod enc Try.prog W 0 (fun _ => true) true k 23 [c2] = some y2 := by simpa [cells23', cells3'] using hg 2 _ rfl
        obtain ⟨z0, g0, _⟩ := DataW.trod_int Try.underlying3 e0
        obtain ⟨z1, g1, _, w1⟩ := DataW.trod_int Try.underlying3 e1
        simp at g0 g1
        subst g0 g1
        have h9 : D i = .agg [y0.1, y1.1, y2.1] := by
          have := congrArg Prod.fst hxx
          simpa using this
        obtain ⟨a4, cap4, l4, hu4, hb4, hs4⟩ := bytes_src4 (u := c2) e2 fun q hq => hwt i hi q (by
          rw [h9]
          simp only [DataW.weights, Try.underlying70]
          exact DataW.weights_mem_each (j := 2) rfl rfl q hq)
        subst hu4
        refine ⟨⟨z0, z1, a4, cap4, l4⟩, ?_, ?_, ?_, hb4, by simpa [Lit.wf, IntKind.min, IntKind.max, IntKind.signed, IntKind.bits] using w1, hs4⟩
        · have := hcell 0 (by omega); rw [Go.Deep.add_add] at this; simpa using this
        · have := hcell 1 (by omega); rw [Go.Deep.add_add] at this; simpa using this
        · have := hcell 2 (by omega); rw [Go.Deep.add_add] at this; simpa using this
    obtain ⟨f, hf'⟩ := choose_lt hy
    refine ⟨some b, len, m, f, rfl, hl, by unfold maxLen at *; omega, fun i hi => ?_⟩
    have h0 := (hf' 0 (by omega)).1
    have hsp : b.spot = none := by
      have := World.cell?_spot h0
      simpa [Addr.add] using this
    obtain ⟨bb, off, spot⟩ := b
    simp only at hsp
    subst hsp
    have hbl := World.block_lt_of_cell? W _ h0
    exact ⟨bb, off, rfl, by simpa [add_block] using hbl, hf' i hi⟩
theorem OpZ.cells {W : World} {b off i : Nat} {x : OpY} (h : OpZ W ⟨b, off, none⟩ i x) : W.cell? ⟨b, off + i * 3, none⟩ = some (.int .i64 x.kind) ∧ W.cell? ⟨b, off + i * 3 + 1, none⟩ = some (.int .i64 x.n) ∧ W.cell? ⟨b, off + i * 3 + 2, none⟩ = some (.slice x.a x.l.length x.cap) := by
  have e : ∀ j, (⟨b, off, none⟩ : Addr).add j = ⟨b, off + j, none⟩ := fun j => by unfold Addr.add; by_cases h0 : j = 0 <;> simp [h0]
  obtain ⟨h1, h2, h3, _⟩ := h
  rw [e] at h1 h2 h3
  exact ⟨h1, by rw [Nat.add_assoc]; exact h2, by rw [Nat.add_assoc]; exact h3⟩
def tm (X : Nat → OpY) : Nat → Nat
  | 0 => 0
  | k + 1 => tm X k + min (X k).l.length 1048576
def InFew (w : World) (X : Nat → OpY) (n : Nat) (u i : Value) (wr : World) : Prop :=
  ∃ k : Nat, k ≤ n ∧ i = .int .i64 k ∧ u = .int .i64 (tm X k) ∧ k ≤ 201 ∧ tm X k ≤ 1048576 ∧ w = wr
theorem tm_mono (X : Nat → OpY) {k n : Nat} (h : k ≤ n) : tm X k ≤ tm X n := by
  induction n with
  | zero => have : k = 0 := by omega
            subst this; exact Nat.le_refl _
  | succ n ih =>
    by_cases hk : k = n + 1
    · subst hk; exact Nat.le_refl _
    · have := ih (by omega)
      simp only [tm]; omega
def FewPost (w : World) (X : Nat → OpY) (n : Nat) (e : Ending) (w' : World) : Prop := ∃ bb, e = .returned (.bool bb) ∧ w = w' ∧ (bb = true → n ≤ 201 ∧ tm X n ≤ 1048576)
set_option maxHeartbeats 4000000 in
set_option maxRecDepth 100000 in
theorem few38 (w : World) (a : Option Addr) (n cap : Nat) (X : Nat → OpY) (h : ∀ i, i < n → ∃ b off, a = some ⟨b, off, none⟩ ∧ w.cell? ⟨b, off + i * 3 + 2, none⟩ = some (.slice (X i).a (X i).l.length (X i).cap)) :
    Calls Try.prog 38 #[.slice a n cap] w (FewPost w X n) := by
  have HH := Lib.hid h
  clear h
  go_enter Try.func38, Try.ntmps38
  go_wp2_with fail
  go_loopw [3, 7] (fun u i wr => InFew w X n u i wr) (fun _ i _ => n - (intOf i).toNat)
  case atStart => exact ⟨0, Nat.zero_le _, rfl, rfl, by omega, Nat.zero_le _, rfl⟩
  case round =>
    obtain ⟨k, hk, rfl, rfl, hk2, ht, rfl⟩ := hrel
    obtain ⟨t, htt⟩ : ∃ t, tm X k = t := ⟨_, rfl⟩
    rw [htt] at ht ⊢
    have HT := Lib.hid htt
    clear htt
    by_cases hlt : k < n
    · obtain ⟨b, off, ha, hc⟩ := HH.out k hlt
      subst ha
      obtain ⟨q, hq⟩ : ∃ q, (X k).l.length = q := ⟨_, rfl⟩
      rw [hq] at hc
      have HQ := Lib.hid hq
      clear hq
      obtain ⟨m, hm⟩ : ∃ m : Nat, min (q : Int) 1048576 = m := ⟨min q 1048576, by omega⟩
      have hmq : m = min q 1048576 := by omega
      have HMQ := Lib.hid hmq
      have hm2 : m ≤ 1048576 := by omega
      clear hmq
      by_cases hbig : (1048576 : Int) < (t : Int) + m
      · go_wp2_with fail
        go_ret
        exact ⟨false, rfl, rfl, fun e => by cases e⟩
      · by_cases hmany : (200 : Int) < (k : Int)
        · go_wp2_with fail
          go_ret
          exact ⟨false, rfl, rfl, fun e => by cases e⟩
        · go_wp2_with fail
          go_roundw
          case rel => exact ⟨k + 1, hlt, by go_num, by simp only [tm, HT.out, HQ.out, ← HMQ.out]; go_num, by omega, by simp only [tm, HT.out, HQ.out, ← HMQ.out]; omega, rfl⟩
          case measure => simp [intOf]; omega
    · obtain rfl : n = k := by omega
      go_wp2_with fail
      go_ret
      exact ⟨true, rfl, rfl, fun _ => ⟨hk2, by rw [HT.out]; exact ht⟩⟩
end Go.Proofs.Ytjkgcpbgacdgaaa
