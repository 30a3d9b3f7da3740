/- Rows cut in two; the document's index: what holds of it. No condition. -/
import Derived.Test.YtobcpafalfdpkaaU
import Derived.BigQuiet
namespace Go.Proofs.Ytobcpafalfdpkaa
open Go.RowKit Go.WideMaps Go.Sort
theorem row_cap {w : World} {base n cap size : Nat} {t : TypeId} {a : Option Addr} {xs : List Value} (hrow : w.ownsRow base t size (.slice a n cap) n xs) : n ≤ cap := by
  rcases hrow.2 with ⟨h1, h2⟩ | ⟨g, cap', cur, hv, _, _, h3, _⟩
  · omega
  · injection hv with _ _ e3
    subst e3
    exact h3
def cutA (a : Option Addr) (cap k size : Nat) : Option Addr := if cap = k then a else a.map (·.add (k * size))
theorem slice84to (a : Option Addr) {n cap k : Nat} (hk : k ≤ n) (hn : n ≤ cap) (w : World) : (Instr.slice 84 (.slice a n cap) none (some (.int .i64 (k : Int))) none).run Try.prog w = .ok (.slice a k cap) w := by
  have h1 : ¬ (cap : Int) < k := by omega
  simp [Instr.slice, Instr.sliceBounds, Instr.sliceBound, asIntOf, go_sem]
  omega
theorem slice84from (a : Option Addr) {n cap k : Nat} (hk : k ≤ n) (hn : n ≤ cap) (w : World) : (Instr.slice 84 (.slice a n cap) (some (.int .i64 (k : Int))) none none).run Try.prog w = .ok (.slice (cutA a cap k 3) (n - k) (cap - k)) w := by
  have hso : (Try.prog.info? 89).map (·.size) = some 3 := by kernel_rfl
  simp [Instr.slice, Instr.sliceBounds, Instr.sliceBound, asIntOf, go_sem, cutA]
  intro hbad
  omega
theorem slice32to (a : Option Addr) {n cap k : Nat} (hk : k ≤ n) (hn : n ≤ cap) (w : World) : (Instr.slice 32 (.slice a n cap) none (some (.int .i64 (k : Int))) none).run Try.prog w = .ok (.slice a k cap) w := by
  have h1 : ¬ (cap : Int) < k := by omega
  simp [Instr.slice, Instr.sliceBounds, Instr.sliceBound, asIntOf, go_sem]
  omega
theorem slice32from (a : Option Addr) {n cap k : Nat} (hk : k ≤ n) (hn : n ≤ cap) (w : World) : (Instr.slice 32 (.slice a n cap) (some (.int .i64 (k : Int))) none none).run Try.prog w = .ok (.slice (cutA a cap k 1) (n - k) (cap - k)) w := by
  have hso : (Try.prog.info? 9).map (·.size) = some 1 := by kernel_rfl
  simp [Instr.slice, Instr.sliceBounds, Instr.sliceBound, asIntOf, go_sem, cutA]
  intro hbad
  omega
/-- What an append reads of either part of a row. -/
theorem cut_src {w : World} {base n cap k size : Nat} {t : TypeId} {a : Option Addr} {xs : List Value} (hrow : w.ownsRow base t size (.slice a n cap) n xs) (hk : k ≤ n) (h1 : ∀ u ∈ xs, u.oneCell' = true) :
    SrcN w size (.slice a k cap) k (xs.take (k * size)) ∧ SrcN w size (.slice (cutA a cap k size) (n - k) (cap - k)) (n - k) (xs.drop (k * size)) := by
  have hlen : xs.length = n * size := hrow.1
  have hks : k * size ≤ n * size := Nat.mul_le_mul_right size hk
  have hl1 : (xs.take (k * size)).length = k * size := by rw [List.length_take, hlen]; exact Nat.min_eq_left hks
  have hl2 : (xs.drop (k * size)).length = (n - k) * size := by rw [List.length_drop, hlen, Nat.sub_mul]
  refine ⟨⟨hl1, ?_⟩, hl2, ?_⟩
  · rcases hrow.2 with ⟨h1, h2⟩ | ⟨g, cap', cur, hv, _⟩
    · injection h1 with e1 e2 e3
      subst e1 e3
      have : k = 0 := by omega
      subst this
      exact .inl ⟨rfl, rfl⟩
    · injection hv with e1 e2 e3
      subst e1 e3
      refine .inr ⟨_, _, rfl, fun j u hj => ?_, fun u hu => h1 u (List.mem_of_mem_take hu)⟩
      have hc := hrow.cells (g := g) rfl
      rw [List.getElem?_take] at hj
      split at hj
      · exact hc j u hj
      · cases hj
  · rcases hrow.2 with ⟨h1, h2⟩ | ⟨g, cap', cur, hv, _⟩
    · injection h1 with e1 e2 e3
      subst e1 e3
      have : k = 0 := by omega
      subst this
      subst h2
      exact .inl ⟨by simp [cutA], rfl⟩
    · injection hv with e1 e2 e3
      subst e1 e3
      refine .inr ⟨if cap = k then ⟨g, 0, none⟩ else (⟨g, 0, none⟩ : Addr).add (k * size), cap - k, by unfold cutA; by_cases hck : cap = k <;> simp [hck], fun j u hj => ?_, fun u hu => h1 u (List.mem_of_mem_drop hu)⟩
      have hc := hrow.cells (g := g) rfl
      rw [List.getElem?_drop] at hj
      have h2 := hc (k * size + j) u hj
      by_cases hck : cap = k
      · have hnc := row_cap hrow
        have hkn : k = n := by omega
        have h3 := (List.getElem?_eq_some_iff.1 hj).1
        rw [hkn] at h3
        omega
      · rw [if_neg hck, add_add]; exact h2
end Go.Proofs.Ytobcpafalfdpkaa
