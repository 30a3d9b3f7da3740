/- The document's disk: new; how much is used. Condition: no sum passes 2^63. -/
import Derived.Test.YtjkgcpbgacdgaaaZ
namespace Go.Proofs.Ytjkgcpbgacdgaaa
open Go.RowKit Go.Sort
def lensR (R : List RFile) : Nat := (R.map fun e => e.bs.length).sum
theorem lensR_take (R : List RFile) (k : Nat) (e : RFile) (h : R[k]? = some e) : lensR (R.take (k + 1)) = lensR (R.take k) + e.bs.length := by
  have hk : k < R.length := by
    rcases Nat.lt_or_ge k R.length with h1 | h1
    · exact h1
    · rw [List.getElem?_eq_none h1] at h; cases h
  have he : R[k] = e := by rw [List.getElem?_eq_getElem hk] at h; injection h
  unfold lensR
  rw [List.take_succ_eq_append_getElem hk, he]
  simp
theorem lensR_le (R : List RFile) (k : Nat) : lensR (R.take k) ≤ lensR R := by
  have : lensR R = lensR (R.take k) + lensR (R.drop k) := by
    unfold lensR
    rw [← List.sum_append, ← List.map_append, List.take_append_drop]
  omega
set_option maxRecDepth 100000 in
theorem refUsed (w : World) (T : Nat → Prop) (r : Nat) (R : List RFile) (room fuse : Int) (down : Bool) (h : RefAt w T r R room fuse down) (hn : R.length ≤ 1000000000000) (hl : lensR R < 2 ^ 62) :
    Calls Try.prog 60 #[.pointer (some ⟨r, 0, none⟩)] w fun e w' => e = .returned (.int .i64 (lensR R : Nat)) ∧ w = w' := by
  obtain ⟨fv, fz, hb, _, hrow, _⟩ := h.blk
  have hf : ∃ a cap, fv = .slice a R.length cap := by
    rcases hrow.2 with ⟨rfl, h0⟩ | ⟨g, cap, cur, rfl, _⟩
    · exact ⟨none, 0, by rw [h0]⟩
    · exact ⟨_, cap, rfl⟩
  obtain ⟨a, cap, rfl⟩ := hf
  have c0 : w.cell? ⟨r, 0, none⟩ = some (.slice a R.length cap) := by simp [World.cell?, hb]
  have HROW := Lib.hid hrow
  have HBY := Lib.hid h.bytes
  have HLE := Lib.hid (lensR_le R)
  obtain ⟨n, hN⟩ : ∃ n, R.length = n := ⟨_, rfl⟩
  obtain ⟨M, hM⟩ : ∃ M, lensR R = M := ⟨_, rfl⟩
  have HN := Lib.hid hN
  have HM := Lib.hid hM
  rw [hN] at c0 hn
  rw [hM] at hl ⊢
  clear h hb hrow hN hM
  go_enter Try.func60, Try.ntmps60
  go_wp2_with fail
  go_loop [3, 10] (fun u i => ∃ k : Nat, k ≤ n ∧ i = .int .i64 k ∧ u = .int .i64 (lensR (R.take k) : Nat)) (fun _ i => n - (intOf i).toNat)
  case atStart => exact ⟨0, Nat.zero_le _, rfl, rfl⟩
  case round =>
    obtain ⟨k, hk, rfl, rfl⟩ := hrel
    by_cases hlt : k < n
    · obtain ⟨x, hx'⟩ : ∃ x, R[k]? = some x := ⟨_, List.getElem?_eq_getElem (by rw [HN.out]; exact hlt)⟩
      obtain ⟨a', c', hxv⟩ : ∃ a' c', x.v = .slice a' x.bs.length c' := by
        rcases (HBY.out x (List.mem_of_getElem? hx')).1 with ⟨h1, h2⟩ | ⟨ad, c, h1, _⟩
        · exact ⟨none, 0, by rw [h1, h2]; rfl⟩
        · exact ⟨_, c, h1⟩
      obtain ⟨g, cap', hv, hc⟩ : ∃ g cap', Value.slice a n cap = .slice (some ⟨g, 0, none⟩) n cap' ∧ w.cell? ⟨g, k * 3 + 1, none⟩ = some (.slice a' x.bs.length c') := by
        have hr := HROW.out
        rw [HN.out] at hr
        rcases hr.2 with ⟨_, h0⟩ | ⟨g, cap', cur, hv, _⟩
        · omega
        · rw [hv] at hr
          refine ⟨g, cap', hv, ?_⟩
          rw [hr.cellAt (k * 3 + 1) (by omega), (refCells_at R k x hx').2.1, hxv]
      cases hv
      have ht := lensR_take R k x hx'
      have hle := HLE.out (k + 1)
      rw [HM.out, ht] at hle
      obtain ⟨q, hq⟩ : ∃ q, lensR (R.take k) = q := ⟨_, rfl⟩
      obtain ⟨b, hb⟩ : ∃ b, x.bs.length = b := ⟨_, rfl⟩
      rw [hq, hb] at ht hle
      rw [hb] at hc
      rw [hq]
      have HTT := Lib.hid ht
      clear ht hq hb hxv hx'
      go_wp2_with fail
      refine ⟨⟨k + 1, by omega, by go_num, by rw [HTT.out]; congr 1⟩, by simp [intOf]; omega⟩
    · have hkn : k = n := by omega
      subst hkn
      have hq : lensR (R.take k) = M := by rw [← HM.out, ← HN.out, List.take_length]
      rw [hq]
      clear hq
      go_wp2_with fail
      go_ret
      exact ⟨rfl, rfl⟩
set_option maxRecDepth 100000 in
theorem refNew (n : Int) (w : World) :
    Calls Try.prog 29 #[.int .i64 n] w fun e w' => e = .returned (.pointer (some ⟨w.heap.size, 0, none⟩)) ∧ RefAt w' (fun k => k = w.heap.size) w.heap.size [] (max n 0) (-1) false ∧ Below w.heap.size w w' ∧ w'.heap.size = w.heap.size + 1 := by
  have key : RefAt (w.alloc (.cells #[.slice none 0 0, .int .i64 (max n 0), .bool false, .int .i64 0, .bool false] 96)) (fun k => k = w.heap.size) w.heap.size [] (max n 0) (-1) false :=
    ⟨⟨.slice none 0 0, 0, heap_alloc_new w _, fun h => by omega, World.ownsRow_nil _ _ _ _, fun g hg => nomatch hg⟩, fun e he => (nomatch he), rfl⟩
  have HK := Lib.hid key
  clear key
  go_enter Try.func29, Try.ntmps29
  go_wp2_with fail
  go_ret
  refine ⟨rfl, HK.out, (Below.refl _ _).alloc (Nat.le_refl _) _, by simp⟩
end Go.Proofs.Ytjkgcpbgacdgaaa
