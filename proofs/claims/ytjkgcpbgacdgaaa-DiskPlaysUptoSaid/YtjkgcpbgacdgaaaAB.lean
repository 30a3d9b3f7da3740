/- Two rows of the same texts are the same. Condition: their length. -/
import Derived.Test.YtjkgcpbgacdgaaaAA
import Derived.BigQuiet
namespace Go.Proofs.Ytjkgcpbgacdgaaa
open Go.RowKit Go.Sort
set_option maxRecDepth 100000 in
theorem sameTexts (w : World) (b1 b2 : Nat) (v1 v2 : Value) (n : Nat) (xs : List Value) (hx : ∀ i, i < n → ∃ s, xs[i]? = some (.string s)) (h1 : w.ownsRow b1 9 1 v1 n xs) (h2 : w.ownsRow b2 9 1 v2 n xs) (hn : n ≤ 1000000000000) :
    Calls Try.prog 61 #[v1, v2] w fun e w' => e = .returned (.bool true) ∧ ∃ q, w' = w.drewN q := by
  have hf : ∀ {b : Nat} {v : Value}, w.ownsRow b 9 1 v n xs → ∃ a cap, v = .slice a n cap := fun h => by
    rcases h.2 with ⟨rfl, h0⟩ | ⟨g, cap, cur, rfl, _⟩
    · exact ⟨none, 0, by rw [h0]⟩
    · exact ⟨_, cap, rfl⟩
  have hc : ∀ {b : Nat} {a : Option Addr} {cap i : Nat}, w.ownsRow b 9 1 (.slice a n cap) n xs → i < n → ∃ g, a = some ⟨g, 0, none⟩ ∧ w.cell? ⟨g, i, none⟩ = xs[i]? := fun {b a cap i} h hi => by
    rcases h.2 with ⟨h0, h1⟩ | ⟨g, cap', cur, hv, _⟩
    · omega
    · injection hv with e1 _ _
      subst e1
      exact ⟨g, rfl, h.cellAt i (by omega)⟩
  obtain ⟨a1, c1, rfl⟩ := hf h1
  obtain ⟨a2, c2, rfl⟩ := hf h2
  have H1 := Lib.hid h1
  have H2 := Lib.hid h2
  have HX := Lib.hid hx
  have HC1 := Lib.hid (fun i (hi : i < n) => hc h1 hi)
  have HC2 := Lib.hid (fun i (hi : i < n) => hc h2 hi)
  clear h1 h2 hx hf hc
  go_enter Try.func61, Try.ntmps61
  go_wp2_with fail
  go_loopw [13] (fun i wr => ∃ k q : Nat, k ≤ n ∧ i = .int .i64 k ∧ wr = w.drewN q) (fun i _ => n - (intOf i).toNat)
  case atStart => exact ⟨0, 0, Nat.zero_le _, rfl, rfl⟩
  case round =>
    obtain ⟨k, q, hk, rfl, rfl⟩ := hrel
    by_cases hlt : k < n
    · obtain ⟨s, hs⟩ := HX.out k hlt
      obtain ⟨g1, rfl, e1⟩ := HC1.out k hlt
      obtain ⟨g2, rfl, e2⟩ := HC2.out k hlt
      rw [hs] at e1 e2
      clear hs
      go_wp2_with fail
      go_quiet (fail)
      go_wp2_with fail
      refine ⟨⟨k + 1, _, by omega, by go_num, rfl⟩, by simp [intOf]; omega⟩
    · have hkn : k = n := by omega
      subst hkn
      go_wp2_with fail
      go_ret
      exact ⟨rfl, _, rfl⟩
end Go.Proofs.Ytjkgcpbgacdgaaa
