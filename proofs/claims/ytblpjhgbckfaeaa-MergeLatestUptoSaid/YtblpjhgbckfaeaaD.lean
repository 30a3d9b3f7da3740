/- The keys of the cache's map: what reads as a key is a pair of strings. No condition. -/
import Derived.Test.YtblpjhgbckfaeaaC
import Derived.Sort.KeysCollected
namespace Go.Proofs.Ytblpjhgbckfaeaa
open Go.RowKit Go.WideMaps Go.Sort
set_option maxRecDepth 100000 in
theorem lit9 {d : Nat} {c : Value} {ls : List Lit} (h : Try.prog.keyLits (d + 1) 9 [c] = some ls) : ∃ s : ByteArray, c = .string s ∧ s.size ≤ maxLen := by
  unfold Program.keyLits at h
  rw [Try.underlying9] at h
  cases c <;> simp at h
  exact ⟨_, rfl, h.1⟩
set_option maxRecDepth 100000 in
theorem lits47_inv {d : Nat} {c0 c1 : Value} {ls : List Lit} (h : Try.prog.keyLits (d + 2) 47 [c0, c1] = some ls) : ∃ s f : ByteArray, c0 = .string s ∧ c1 = .string f ∧ s.size ≤ maxLen ∧ f.size ≤ maxLen := by
  unfold Program.keyLits at h
  rw [Try.underlying47] at h
  simp only [cells47] at h
  simp [cells9] at h
  cases h0 : Try.prog.keyLits (d + 1) 9 [c0] with
  | none => rw [h0] at h; simp at h
  | some a =>
    cases h1 : Try.prog.keyLits (d + 1) 9 [c1] with
    | none => rw [h0, h1] at h; simp at h
    | some b =>
      obtain ⟨s, hs, hs'⟩ := lit9 h0
      obtain ⟨f, hf, hf'⟩ := lit9 h1
      exact ⟨s, f, hs, hf, hs', hf'⟩
set_option maxRecDepth 100000 in
theorem key47_inv {v : Value} {kl : Lit} (h : keyOf Try.prog 47 v = some kl) : ∃ s f : ByteArray, v = kV s f ∧ s.size ≤ maxLen ∧ f.size ≤ maxLen ∧ kl = kL s f := by
  have h0 := h
  unfold keyOf at h
  rw [Try.underlying47] at h
  simp only [kt47, Bool.true_and] at h
  cases hfm : v.formed Try.prog 47 with
  | false => rw [hfm] at h; cases h
  | true =>
    rw [hfm] at h
    simp only [if_true] at h
    obtain ⟨d, hd⟩ : ∃ d, Try.prog.types.size + 1 = d + 2 := ⟨Try.prog.types.size - 1, by have h : (47 : Nat) < Try.prog.types.size := row47; omega⟩
    rw [hd] at h
    cases v with
    | agg cs =>
      have hsz : cs.size = 2 := by
        unfold Value.formed at hfm
        rw [Try.underlying47] at hfm
        simpa [cells47] using hfm
      obtain ⟨c0, c1, rfl⟩ : ∃ c0 c1, cs = #[c0, c1] := by
        have : cs.toList.length = 2 := by simpa using hsz
        match hl : cs.toList, this with
        | [c0, c1], _ => exact ⟨c0, c1, by rw [← Array.toList_inj, hl]⟩
      cases hk : Try.prog.keyLits (d + 2) 47 (Value.agg #[c0, c1]).cells.toList with
      | none => rw [hk] at h; cases h
      | some ls =>
        obtain ⟨s, f, rfl, rfl, hs, hf⟩ := lits47_inv (c0 := c0) (c1 := c1) hk
        refine ⟨s, f, rfl, hs, hf, ?_⟩
        have h2 := key47 s f hs hf
        unfold kV at h2
        rw [h2] at h0
        exact (Option.some.inj h0).symm
    | _ => simp [Value.formed, Try.underlying47] at hfm
/-- The bytes of a key. -/
def kB (s f : ByteArray) : List UInt8 := keyBytes [.string s.data.toList, .string f.data.toList]
theorem kL_kB (s f : ByteArray) : kL s f = .string (kB s f) := rfl
open Classical in
/-- The key of its bytes. -/
noncomputable def encK (x : List UInt8) : Value := if h : ∃ p : ByteArray × ByteArray, p.1.size ≤ maxLen ∧ p.2.size ≤ maxLen ∧ kB p.1 p.2 = x then kV h.choose.1 h.choose.2 else kV ⟨#[]⟩ ⟨#[]⟩
theorem encK_of {s f : ByteArray} (hs : s.size ≤ maxLen) (hf : f.size ≤ maxLen) : encK (kB s f) = kV s f := by
  have h : ∃ p : ByteArray × ByteArray, p.1.size ≤ maxLen ∧ p.2.size ≤ maxLen ∧ kB p.1 p.2 = kB s f := ⟨(s, f), hs, hf, rfl⟩
  unfold encK
  rw [dif_pos h]
  obtain ⟨h1, h2, h3⟩ := h.choose_spec
  obtain ⟨e1, e2⟩ := kL_eq h1 h2 hs hf (by rw [kL_kB, kL_kB, h3])
  rw [e1, e2]
theorem encK_form (x : List UInt8) : ∃ s f : ByteArray, encK x = kV s f ∧ s.size ≤ maxLen ∧ f.size ≤ maxLen := by
  unfold encK
  by_cases h : ∃ p : ByteArray × ByteArray, p.1.size ≤ maxLen ∧ p.2.size ≤ maxLen ∧ kB p.1 p.2 = x
  · rw [dif_pos h]
    exact ⟨_, _, rfl, h.choose_spec.1, h.choose_spec.2.1⟩
  · rw [dif_neg h]
    exact ⟨_, _, rfl, by decide, by decide⟩
end Go.Proofs.Ytblpjhgbckfaeaa
