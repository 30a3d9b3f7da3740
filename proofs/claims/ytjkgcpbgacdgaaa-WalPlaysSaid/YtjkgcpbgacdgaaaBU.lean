/- An entry of the log. Conditions: sizes. -/
import Derived.Test.YtjkgcpbgacdgaaaBS
namespace Go.Proofs.Ytjkgcpbgacdgaaa
open Go.RowKit
set_option maxHeartbeats 4000000 in
set_option maxRecDepth 100000 in
theorem get68 (w : World) (T : Nat → Prop) (l d : Nat) (first size : Int) (v : Value) (X : List (Value × List Value)) (over : Bool) (n : Int) (h : LogAt w T l d first v X size over) (hn : -(2 ^ 62) ≤ first ∧ first ≤ 2 ^ 62) (hX : X.length ≤ 1000000000000) (hx2 : ∀ x ∈ X, x.2.length ≤ 1000000000000) :
    Calls Try.prog 68 #[.pointer (some ⟨l, 0, none⟩), .int .i64 n] w fun e w' => Below w.heap.size w w' ∧ ((n < first ∨ first + X.length ≤ n) ∧ e = .returned (.tuple #[.slice none 0 0, .int .i64 3]) ∨ ∃ (k : Nat) (x : Value × List Value) (v' : Value), n = first + k ∧ X[k]? = some x ∧ e = .returned (.tuple #[v', .int .i64 0]) ∧ w'.ownsRow w.heap.size 5 1 v' x.2.length x.2) := by
  obtain ⟨c0, c1, c2, c3, c4, _⟩ := log_cells h.blk
  obtain ⟨a, c, rfl⟩ := row_form h.row
  have HH := Lib.hid h
  have HLA := Lib.hid (row_listAt h.row fun x hx => (h.ent x hx).1).1
  have hll := blk_lt h.blk
  obtain ⟨M, hM⟩ : ∃ M, X.length = M := ⟨_, rfl⟩
  rw [hM] at c2
  have HM := Lib.hid hM
  have HX2 := Lib.hid hx2
  have HXL := Lib.hid hX
  have hM2 : M ≤ 1000000000000 := by rw [← hM]; exact hX
  have HNX := Lib.hid (next20 w l d first size a M c over (hM ▸ h.blk) hn (by omega))
  have HFI := Lib.hid (first19 w l d first size _ over h.blk)
  clear h hM hx2 hX
  by_cases h1 : n < first
  · have h1' : decide (n < first) = true := decide_eq_true h1
    go_enter Try.func68, Try.ntmps68
    go_wp2_with fail
    refine HFI.out.mono ?_
    rintro e w1 ⟨rfl, rfl⟩
    go_wp2_with fail
    go_ret2
    exact ⟨Below.refl _ _, .inl ⟨.inl h1, rfl⟩⟩
  · have h1' : decide (n < first) = false := decide_eq_false h1
    by_cases h2 : first + M ≤ n
    · have h2' : decide (first + (M : Int) ≤ n) = true := decide_eq_true h2
      go_enter Try.func68, Try.ntmps68
      go_wp2_with fail
      refine HFI.out.mono ?_
      rintro e w1 ⟨rfl, rfl⟩
      go_wp2_with fail
      refine HNX.out.mono ?_
      rintro e w1 ⟨rfl, q, rfl⟩
      go_wp2_with fail
      go_ret2
      exact ⟨below_dN w q, .inl ⟨.inr (by rw [HM.out]; exact h2), rfl⟩⟩
    · obtain ⟨k, rfl⟩ : ∃ k : Nat, n = first + k := ⟨(n - first).toNat, by omega⟩
      have h2' : decide (first + (M : Int) ≤ first + (k : Int)) = false := decide_eq_false h2
      have hkM : k < M := by omega
      obtain ⟨x, hx⟩ : ∃ x, X[k]? = some x := ⟨_, List.getElem?_eq_getElem (by rw [HM.out]; exact hkM)⟩
      obtain ⟨lb, off, rfl, hcl⟩ := HLA.out.cell hx
      have hk9 : first + (k : Int) - first = (k : Int) := by omega
      have hkM' : (k : Int) < (M : Int) := by omega
      have hwk : IntKind.i64.wrap (k : Int) = k := by simp only [IntKind.wrap, IntKind.bits, IntKind.signed]; simp; omega
      have hcx0 := hcl w (Below.refl _ _)
      have HLB := Lib.hid (World.block_lt_of_cell? w _ hcx0)
      obtain ⟨xa, xc, hxf⟩ := (HLA.out.2 x (List.mem_of_getElem? hx)).form
      obtain ⟨nx, hnx⟩ : ∃ n, x.2.length = n := ⟨_, rfl⟩
      have HX := Lib.hid hx
      have HSRC := Lib.hid (HLA.out.2 x (List.mem_of_getElem? hx))
      have HNX2 := Lib.hid (HX2.out x (List.mem_of_getElem? hx))
      have HXF := Lib.hid hxf
      have HNN := Lib.hid hnx
      clear hx hcx0 hxf hnx
      go_enter Try.func68, Try.ntmps68
      go_wp2_with fail
      refine HFI.out.mono ?_
      rintro e w1 ⟨rfl, rfl⟩
      go_wp2_with fail
      refine HNX.out.mono ?_
      rintro e w1 ⟨rfl, q, hq⟩
      have hb1 : Below w.heap.size w w1 := hq ▸ below_dN w q
      have HB1 := Lib.hid hb1
      have d1 : w1.cell? ⟨l, 1, none⟩ = some (.int .i64 first) := (hb1.cell (p := ⟨l, 1, none⟩) hll).trans c1
      have d2 : w1.cell? ⟨l, 2, none⟩ = some (.slice (some ⟨lb, off, none⟩) M c) := (hb1.cell (p := ⟨l, 2, none⟩) hll).trans c2
      have dx : w1.cell? ⟨lb, off + k, none⟩ = some (.slice xa nx xc) := by rw [hcl w1 hb1, HXF.out, HNN.out]
      have hll1 : l < w1.heap.size := Nat.lt_of_lt_of_le hll hb1.size
      have hs1 : SrcN w1.drew 1 (.slice xa nx xc) x.2.length x.2 := by
        have h5 := (HSRC.out.later hb1).same (w' := w1.drew) fun _ _ => rfl
        rw [HXF.out, HNN.out] at h5
        rw [HNN.out]; exact h5
      have HS1 := Lib.hid hs1
      clear hq hb1 hcl hs1 c0 c1 c2 c3 c4
      go_wp2_with fail
      go_region_law (go_simp; go_at_call 46; refine (cloneB _ _ x.2 HS1.out HNX2.out).mono ?_; rintro e w3 ⟨v3, rfl, hr3, hb3⟩; have HR3 := Lib.hid hr3; have HB3 := Lib.hid (((Below.refl w1.heap.size w1).drew).trans hb3); clear hr3 hb3; go_wp2_with fail)
      all_goals
        go_wp2_with fail
        go_ret2
        refine ⟨HB1.out.trans (HB3.out.mono HB1.out.size), .inr ⟨k, x, _, rfl, HX.out, rfl, row_low HR3.out HB1.out.size⟩⟩
end Go.Proofs.Ytjkgcpbgacdgaaa
