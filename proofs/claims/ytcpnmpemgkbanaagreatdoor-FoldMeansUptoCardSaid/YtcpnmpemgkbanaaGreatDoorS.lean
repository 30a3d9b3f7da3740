/- The walk of FoldEnds. Conditions: the table of blanks is as the text lays it; the input's bulk. -/
import Derived.Test.YtcpnmpemgkbanaaGreatDoorQ
import Derived.Test.YtcpnmpemgkbanaaGreatDoorP
import Derived.Test.YtcpnmpemgkbanaaGreatDoorL
import Derived.Lib.AppendIntMem
namespace Go.Proofs.YtcpnmpemgkbanaaGreatDoor
open Go.RowKit Go.Sort Go.WideShapes Go.ChangeShapes Go.Deep Go.Joins
theorem one_le {H : Type} (d : DataW H) : 1 ≤ Rows.uptoBulk d := by
  cases d with
  | lit l => cases l <;> simp [Rows.uptoBulk]
  | nil => simp [Rows.uptoBulk]
  | ptr d => simp [Rows.uptoBulk]
  | slice elems spare => simp [Rows.uptoBulk]
  | agg parts => simp [Rows.uptoBulk]
  | iface t d => simp [Rows.uptoBulk]
  | map entries => simp [Rows.uptoBulk]
  | held h => simp [Rows.uptoBulk]
theorem length_le {H : Type} (l : List (DataW H)) : l.length ≤ Rows.uptoBulkAll l := by
  induction l with
  | nil => simp [Rows.uptoBulkAll]
  | cons x r ih => have := one_le x; simp only [Rows.uptoBulkAll, List.length_cons]; omega
theorem slice_le {H : Type} (elems spare : List (DataW H)) : elems.length + spare.length + 1 ≤ Rows.uptoBulk (.slice elems spare) := by
  have h1 := length_le elems
  have h2 := length_le spare
  simp only [Rows.uptoBulk]
  omega
set_option maxRecDepth 100000 in
/-- A slice of whole numbers that came in, its length by the input's bulk. -/
theorem ints_upto {H : Type} {enc : TypeId × Value → H} {W : World} {base : Nat} {t e : TypeId} {k : IntKind} {v : Value} {d : DataW H} {p : List MemPlace} (ht : Tryz.prog.underlying t = some (.slice e)) (he : Tryz.prog.underlying e = some (.int k)) (hc : Tryz.prog.cellsOf e = 1)
    (h : DataW.Trod enc Tryz.prog W 0 (fun _ => true) true t v d p) (o : Value.okWide Tryz.prog W .any base t v) (hk : Rows.uptoSmall H [d] = true) :
    ∃ (a : Option Addr) (n cap : Nat) (g : Nat → Int), v = .slice a n cap ∧ n ≤ 1048576 ∧ ∀ i, i < n → ∃ b off, a = some ⟨b, off, none⟩ ∧ b < W.heap.size ∧ W.cell? ⟨b, off + i, none⟩ = some (.int k (g i)) ∧ (Lit.int k (g i)).wf = true := by
  have hn : ∀ a n cap, v = .slice a n cap → n ≤ 1048576 := by
    rintro a n cap rfl
    have h2 : Rows.uptoBulkAll [d] ≤ 1048576 := of_decide_eq_true hk
    simp only [Rows.uptoBulkAll] at h2
    obtain ⟨fuel, hf⟩ := h
    rcases open_ints ht he hc hf with ⟨hcs, _⟩ | ⟨b, l, c, zs, hcs, _, hl, hm, hzl, hd, _, _⟩
    · simp [Value.cells] at hcs
      omega
    · simp [Value.cells] at hcs
      obtain ⟨rfl, rfl, rfl⟩ := hcs
      simp only [if_true] at hzl
      injection hd with hd _
      subst hd
      have := slice_le (lits (H := H) k (zs.take n)) (lits (H := H) k (zs.drop n))
      have h3 : (lits (H := H) k (zs.take n)).length = n := by simp [lits]; omega
      omega
  obtain ⟨a, n, cap, zs, rfl, _, _, hz⟩ := ints_open ht he hc h o
  exact ⟨a, n, cap, fun i => zs.getD i 0, rfl, hn _ _ _ rfl, hz⟩
/-- The values of whole numbers. -/
def FI (g : Nat → Int) : Nat → V3 × Bool := fun j => (⟨2, uw (g j), ⟨#[]⟩⟩, true)
theorem vals_own {w : World} {B n c : Nat} {A : Option Addr} {g : Nat → Int} (h : w.ownsRow B 27 3 (.slice A n c) n (cellsL (FI g) n)) : Vals w A n ((List.range n).map g) := fun i hi => by
  obtain ⟨b, hA, hb, hc⟩ := own_cell h (by omega)
  obtain ⟨s0, s1, s2⟩ := cellsL_at (FI g) n i hi
  refine ⟨b, 0, g i, hA, hb, by simp [hi], ?_, ?_, ?_⟩
  · rw [Nat.zero_add]; exact (hc _ (by omega)).trans s0
  · rw [Nat.zero_add]; exact (hc _ (by omega)).trans s1
  · rw [Nat.zero_add]; exact (hc _ (by omega)).trans s2
theorem tab_later {w w' : World} (h : Lib.TabIs Tryz.prog w "strings.asciiSpace" .u8 Lib.asciiSpaceTab) (hb : Below w.heap.size w w') : Lib.TabIs Tryz.prog w' "strings.asciiSpace" .u8 Lib.asciiSpaceTab := Lib.tabBelow_of_tabIs h w' hb
theorem uw_add (a v : Int) : IntKind.u64.wrap (uw a + uw v) = uw (a + v) := by
  unfold uw
  simp only [IntKind.wrap, IntKind.bits, IntKind.signed]
  simp
theorem wsum_go (l : List Int) (a : Int) : l.foldl (fun a v => IntKind.u64.wrap (a + uw v)) (uw a) = uw (a + l.sum) := by
  induction l generalizing a with
  | nil => simp
  | cons v r ih => rw [List.foldl_cons, uw_add, ih, List.sum_cons, Int.add_assoc]
theorem wsum_sum (l : List Int) : wsum l = uw l.sum := by
  have := wsum_go l 0
  rw [show uw 0 = 0 by decide, Int.zero_add] at this
  exact this
theorem sum_rev (g : Nat → Int) (n : Nat) : ((List.range n).map fun j => g (n - 1 - j)).sum = ((List.range n).map g).sum := by
  have : ((List.range n).map fun j => g (n - 1 - j)) = ((List.range n).map g).reverse := by
    apply List.ext_getElem
    · simp
    · intro i h1 h2
      simp at h1
      simp [List.getElem_reverse]
  rw [this, List.sum_reverse]
theorem foldl_low (l : List Int) (a : Int) : l.foldl (fun a v => ltV v a) a ≤ a ∧ ∀ v ∈ l, l.foldl (fun a v => ltV v a) a ≤ v := by
  induction l generalizing a with
  | nil => exact ⟨Int.le_refl _, fun _ h => nomatch h⟩
  | cons x r ih =>
    obtain ⟨h1, h2⟩ := ih (ltV x a)
    have h3 : ltV x a ≤ a ∧ ltV x a ≤ x := by unfold ltV; split <;> omega
    refine ⟨by rw [List.foldl_cons]; omega, fun v hv => ?_⟩
    rw [List.foldl_cons]
    rcases List.mem_cons.1 hv with rfl | hv
    · omega
    · exact h2 v hv
theorem lowL_le (l : List Int) : ∀ v ∈ l, lowL l ≤ v := by
  cases l with
  | nil => exact fun _ h => nomatch h
  | cons x r =>
    intro v hv
    obtain ⟨h1, h2⟩ := foldl_low r x
    rcases List.mem_cons.1 hv with rfl | hv
    · exact h1
    · exact h2 v hv
theorem foldl_high (l : List Int) (a : Int) : a ≤ l.foldl (fun a v => gtV v a) a ∧ ∀ v ∈ l, v ≤ l.foldl (fun a v => gtV v a) a := by
  induction l generalizing a with
  | nil => exact ⟨Int.le_refl _, fun _ h => nomatch h⟩
  | cons x r ih =>
    obtain ⟨h1, h2⟩ := ih (gtV x a)
    have h3 : a ≤ gtV x a ∧ x ≤ gtV x a := by unfold gtV; split <;> omega
    refine ⟨by rw [List.foldl_cons]; omega, fun v hv => ?_⟩
    rw [List.foldl_cons]
    rcases List.mem_cons.1 hv with rfl | hv
    · omega
    · exact h2 v hv
theorem highL_ge (l : List Int) : ∀ v ∈ l, v ≤ highL l := by
  cases l with
  | nil => exact fun _ h => nomatch h
  | cons x r =>
    intro v hv
    obtain ⟨h1, h2⟩ := foldl_high r x
    rcases List.mem_cons.1 hv with rfl | hv
    · exact h1
    · exact h2 v hv
end Go.Proofs.YtcpnmpemgkbanaaGreatDoor
