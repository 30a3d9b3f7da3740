/- Slices of files that came in are read, and the walk of MergePlans: it answers true. Condition: the reach of the form. -/
import Derived.Test.YtkiladicdpahjaaC
import Derived.Deep.Slices
import Derived.SizedLaws
namespace Go.Proofs.Ytkiladicdpahjaa
open Go.RowKit Go.Deep Go.WideShapes Go.ChangeShapes
theorem cell_lt {w : World} {a : Addr} {v : Value} (h : w.cell? a = some v) : a.block < w.heap.size := by
  refine Nat.lt_of_not_le fun hle => ?_
  have : w.heap[a.block]? = none := by simp; omega
  unfold World.cell? at h
  rw [this] at h
  split at h <;> simp_all
theorem bytes32 : Try.prog.bytesOf 32 = 16 := by kernel_rfl
theorem cells32 : Try.prog.cellsOf 32 = 2 := by kernel_rfl
theorem cells3 : Try.prog.cellsOf 3 = 1 := by kernel_rfl
theorem cells4 : Try.prog.cellsOf 4 = 1 := by kernel_rfl
theorem infos_open {H : Type} {enc : TypeId × Value → H} {W : World} {base : Nat} {v : Value} {d : DataW H} {p : List MemPlace}
    (h : DataW.Trod enc Try.prog W 0 (fun _ => true) true 22 v d p) (o : Value.okWide Try.prog W .any base 22 v) (hsz : (DataW.weightsEach Try.prog [22] [d]).all (· ≤ reachBytes) = true) :
    ∃ a len cap lv tb, v = .slice a len cap ∧ len * 16 ≤ 140737488351232 ∧ InfosAt W a len lv tb ∧ ∀ i, -9223372036854775808 ≤ lv i ∧ lv i ≤ 9223372036854775807 := by
  obtain ⟨a, len, cap, rfl⟩ := okWide_slice Try.underlying22 o
  obtain ⟨fuel, hf⟩ := h
  rcases open_slice Try.underlying22 hf with ⟨hcs, _⟩ | ⟨b, l, c, m, n, D, Pl, hcs, _, hl, hm, hmm, hd, hx⟩
  · simp [Value.cells] at hcs
    obtain ⟨rfl, rfl, rfl⟩ := hcs
    exact ⟨none, 0, 0, fun _ => 0, fun _ => false, rfl, by omega, fun i hi => absurd hi (by omega), fun i => by dsimp only; omega⟩
  · simp [Value.cells] at hcs
    obtain ⟨rfl, rfl, rfl⟩ := hcs
    simp only [if_true] at hmm
    subst hmm
    simp only [Prod.mk.injEq] at hd
    obtain ⟨rfl, _⟩ := hd
    have hs := sized_slice hsz (j := 0) (t := 22) (e := 32) rfl rfl Try.underlying22
    rw [bytes32] at hs
    simp only [List.length_map, List.length_range, reachBytes] at hs
    have hy : ∀ i, i < m → ∃ z : Int × Bool, (-9223372036854775808 ≤ z.1 ∧ z.1 ≤ 9223372036854775807) ∧ W.cell? (b.add (i * 2)) = some (.int .i64 z.1) ∧ W.cell? (b.add (i * 2 + 1)) = some (.bool z.2) := by
      intro i hi
      obtain ⟨cs', h1, h2⟩ := hx i hi
      rw [cells32] at h1
      obtain ⟨_, hcl, hcell⟩ := World.cells?_some h1
      obtain ⟨y0, y1, k, _, _, e0, e1⟩ := trod_struct2 Try.underlying32 h2
      simp only [cells3, cells4] at e0 e1
      obtain ⟨z, g1, _, g3⟩ := DataW.trod_int Try.underlying3 e0
      obtain ⟨t, g4, _⟩ := DataW.trod_bool Try.underlying4 e1
      match cs', hcl with
      | [c0, c1], _ =>
        simp at g1 g4
        subst g1 g4
        refine ⟨(z, t), by simpa [Lit.wf, IntKind.min, IntKind.max, IntKind.signed, IntKind.bits] using g3, ?_, ?_⟩
        · have := hcell 0 (by omega); rw [add_add] at this; simpa using this
        · have := hcell 1 (by omega); rw [add_add] at this; simpa using this
    obtain ⟨f, hf'⟩ := choose_lt hy
    refine ⟨_, len, m, fun i => if i < m then (f i).1 else 0, fun i => (f i).2, rfl, by omega, ?_, ?_⟩
    · intro i hi
      obtain ⟨_, h1, h2⟩ := hf' i (by omega)
      have hsp : b.spot = none := World.cell?_spot (by have := (hf' 0 (by omega)).2.1; simpa [Addr.add] using this)
      obtain ⟨bb, off, spot⟩ := b
      simp only at hsp
      subst hsp
      have hb := cell_lt h1
      refine ⟨bb, off, rfl, ?_, ?_, ?_⟩
      · unfold Addr.add at hb; split at hb <;> exact hb
      · dsimp only; rw [if_pos (by omega), ← h1]
        congr 1
        unfold Addr.add
        split <;> simp_all
      · rw [← h2]
        congr 1
    · intro i
      dsimp only
      split
      · rename_i h; exact (hf' i h).1
      · omega
theorem cellsOf_len (lv : Nat → Int) (tb : Nat → Bool) (n : Nat) : (cellsOf lv tb n).length = n * 2 := by
  induction n with
  | zero => rfl
  | succ n ih => rw [cellsOf_succ, List.length_append, ih]; simp; omega
theorem cellsOf_get (lv : Nat → Int) (tb : Nat → Bool) : ∀ n i, i < n → (cellsOf lv tb n)[i * 2]? = some (.int .i64 (lv i)) ∧ (cellsOf lv tb n)[i * 2 + 1]? = some (.bool (tb i))
  | 0, i, h => absurd h (by omega)
  | n + 1, i, h => by
    rw [cellsOf_succ]
    by_cases hi : i < n
    · rw [List.getElem?_append_left (by rw [cellsOf_len]; omega), List.getElem?_append_left (by rw [cellsOf_len]; omega)]
      exact cellsOf_get lv tb n i hi
    · have : i = n := by omega
      subst this
      rw [List.getElem?_append_right (by rw [cellsOf_len]; omega), List.getElem?_append_right (by rw [cellsOf_len]; omega), cellsOf_len]
      have e1 : i * 2 + 1 - i * 2 = 1 := by omega
      simp [e1]
theorem infos_of_own {w : World} {base len : Nat} {v : Value} {lv : Nat → Int} {tb : Nat → Bool} (h : w.ownsRow base 31 2 v len (cellsOf lv tb len)) : ∃ a cap, v = .slice a len cap ∧ InfosAt w a len lv tb := by
  obtain ⟨_, ⟨rfl, rfl⟩ | ⟨g, cap, cur, rfl, hg, hh, hle, hcap, hcs, htake⟩⟩ := h
  · exact ⟨none, 0, rfl, fun i hi => absurd hi (by omega)⟩
  · have key : ∀ j u, (cellsOf lv tb len)[j]? = some u → w.cell? ⟨g, 0 + j, none⟩ = some u := by
      intro j u hj
      have hlt : j < len * 2 := by have := (List.getElem?_eq_some_iff.1 hj).1; rwa [cellsOf_len] at this
      rw [← htake, List.getElem?_take, if_pos hlt] at hj
      simp [World.cell?, hh]
      simpa using hj
    refine ⟨_, cap, rfl, fun i hi => ⟨g, 0, rfl, (Array.getElem?_eq_some_iff.1 hh).1, ?_, ?_⟩⟩
    · have := key (i * 2) _ (cellsOf_get lv tb len i hi).1
      exact this
    · have := key (i * 2 + 1) _ (cellsOf_get lv tb len i hi).2
      rw [← Nat.add_assoc] at this
      exact this
def lv2 : Nat → Int := fun i => if i = 0 then 2 else 1
theorem lv2_ok (i : Nat) : -9223372036854775808 ≤ lv2 i ∧ lv2 i ≤ 9223372036854775807 := by unfold lv2; split <;> omega
theorem plan2 : plan lv2 false 2 = (0, 2, 4) := by decide
theorem awake (w : World) : Calls Try.prog 5 #[] w fun e w' => e = .returned (.bool true) ∧ Below w.heap.size w w' := by
  go_enter Try.func5, Try.ntmps5
  go_wp2_with fail
  refine (mplan _ 2 2 lv2 (fun _ => false) _ (by omega) lv2_ok ?_).mono ?_
  · intro i hi
    refine ⟨_, _, rfl, by simp, ?_⟩
    have : i = 0 ∨ i = 1 := by omega
    rcases this with rfl | rfl <;> simp [World.cell?_alloc_new, lv2]
  · unfold Planned
    rw [plan2]
    rintro e w' ⟨rfl, hb⟩
    have HB := Lib.hid hb
    clear hb
    go_wp2_with fail
    go_ret
    exact ⟨rfl, ((Below.refl _ _).alloc (Nat.le_refl _) _).trans (HB.out.mono (by simp))⟩
theorem mergePlans_walk (H : Type) (enc : TypeId × Value → H) (W : World) (base : Nat) (v0 : Value) (d0 : DataW H) (p0 : List MemPlace) (h0 : DataW.Trod enc Try.prog W 0 (fun _ => true) true 22 v0 d0 p0) (o0 : Value.okWide Try.prog W .any base 22 v0) (hsz : (DataW.weightsEach Try.prog [22] [d0]).all (· ≤ reachBytes) = true) :
    Calls Try.prog 3 #[v0] W fun e w' => e = .returned (.bool true) ∧ Below W.heap.size W w' := by
  obtain ⟨a, len, cap, lv, tb, rfl, hlen, hat, hlv⟩ := infos_open h0 o0 hsz
  have HAT := Lib.hid hat
  have HLV := Lib.hid hlv
  clear h0 o0 hsz hat hlv
  go_enter Try.func3, Try.ntmps3
  go_wp2_with fail
  refine (awake _).mono ?_
  rintro e w1 ⟨rfl, hb⟩
  have HB := Lib.hid hb
  clear hb
  go_wp2_with fail
  have hat1 : InfosAt w1 a len lv tb := fun i hi => by
    obtain ⟨b, off, h1, h2, h3, h4⟩ := HAT.out i hi
    exact ⟨b, off, h1, Nat.lt_of_lt_of_le h2 HB.out.size, by rw [← h3]; exact HB.out.cell h2, by rw [← h4]; exact HB.out.cell h2⟩
  have HAT1 := Lib.hid hat1
  clear hat1
  refine (theirs a len cap lv tb w1 hlen HAT1.out).mono ?_
  rintro e w2 ⟨v, rfl, hown, hb2⟩
  obtain ⟨a', cap', rfl, hat2⟩ := infos_of_own hown
  have HB2 := Lib.hid hb2
  have HAT2 := Lib.hid hat2
  clear hb2 hat2 hown
  go_wp2_with fail
  refine (mplan a' len cap' lv tb w2 (by omega) HLV.out HAT2.out).mono ?_
  rintro e w3 ⟨rfl, hb3⟩
  have HB3 := Lib.hid hb3
  clear hb3
  go_wp2_with fail
  have hat3 : InfosAt w3 a len lv tb := fun i hi => by
    obtain ⟨b, off, h1, h2, h3, h4⟩ := HAT1.out i hi
    exact ⟨b, off, h1, Nat.lt_of_lt_of_le h2 (Nat.le_trans HB2.out.size HB3.out.size), by rw [← h3, ← HB2.out.cell h2]; exact HB3.out.cell (Nat.lt_of_lt_of_le h2 HB2.out.size), by rw [← h4, ← HB2.out.cell h2]; exact HB3.out.cell (Nat.lt_of_lt_of_le h2 HB2.out.size)⟩
  have HAT3 := Lib.hid hat3
  clear hat3
  refine (rplan a len cap lv tb w3 (by omega) HLV.out HAT3.out).mono ?_
  rintro e w4 ⟨rfl, hb4⟩
  have HB4 := Lib.hid hb4
  clear hb4
  go_wp2_with fail
  go_ret
  exact ⟨rfl, ((HB.out.trans (HB2.out.mono HB.out.size)).trans (HB3.out.mono (Nat.le_trans HB.out.size HB2.out.size))).trans (HB4.out.mono (Nat.le_trans HB.out.size (Nat.le_trans HB2.out.size HB3.out.size)))⟩
end Go.Proofs.Ytkiladicdpahjaa
