/- The sums of the rows that grow beyond all. No condition: plain law. -/
import Derived.Test.YtnnoefbmoafbnaaDoorE
namespace Go.Proofs.YtnnoefbmoafbnaaDoor
open Go.RowKit
set_option maxRecDepth 100000
def el (v i : Nat) : Nat := if i % 4 = 0 then v else if i % 4 = 2 then neg v else 0
def zs (v K : Nat) : List Nat := (List.range (4 * K)).map (el v)
theorem zs_len (v K : Nat) : (zs v K).length = 4 * K := by simp [zs]
theorem zs_get (v K i : Nat) (h : i < 4 * K) : (zs v K).getD i 0 = el v i := by simp [zs, List.getD, h]
theorem zs_succ (v K : Nat) : zs v (K + 1) = zs v K ++ [v, 0, neg v, 0] := by
  have e : 4 * (K + 1) = 4 * K + 1 + 1 + 1 + 1 := by omega
  have h0 : el v (4 * K) = v := by unfold el; rw [if_pos (by omega)]
  have h1 : el v (4 * K + 1) = 0 := by unfold el; rw [if_neg (by omega), if_neg (by omega)]
  have h2 : el v (4 * K + 1 + 1) = neg v := by unfold el; rw [if_neg (by omega), if_pos (by omega)]
  have h3 : el v (4 * K + 1 + 1 + 1) = 0 := by unfold el; rw [if_neg (by omega), if_neg (by omega)]
  simp [zs, e, List.range_succ, h0, h1, h2, h3]
theorem im1 : Ieee.double.add 0 0 = some 0 := by kernel_rfl
theorem im2 : Ieee.double.add 0 9223372036854775808 = some 0 := by kernel_rfl
theorem nz : neg 0 = 9223372036854775808 := by kernel_rfl
theorem nnn : neg 18442240474082181119 = 9218868437227405311 := by kernel_rfl
theorem nnp : neg 9218868437227405311 = 18442240474082181119 := by kernel_rfl
theorem a0p : Ieee.double.add 0 9218868437227405311 = some 9218868437227405311 := by kernel_rfl
theorem a1p : Ieee.double.add 9218868437227405311 9218868437227405311 = some 9218868437227405312 := by kernel_rfl
theorem a2p : Ieee.double.add 9218868437227405312 9218868437227405311 = some 9218868437227405312 := by kernel_rfl
theorem endsp (K : Nat) : ∀ k re im, k ≤ K → SumR (zs 9218868437227405311 K) (4 * k) re im → im = 0 ∧ re = if k = 0 then 0 else 9218868437227405312
  | 0, re, im, _, h => by obtain ⟨rfl, rfl⟩ := h; exact ⟨rfl, rfl⟩
  | k + 1, re, im, hk, h => by
    have e : 4 * (k + 1) = 4 * k + 1 + 1 + 1 + 1 := by omega
    rw [e] at h
    obtain ⟨c3, d3, ⟨c2, d2, ⟨c1, d1, ⟨c0, d0, h, s0⟩, s1⟩, s2⟩, s3⟩ := h
    obtain ⟨rfl, rfl⟩ := endsp K k _ _ (by omega) h
    have g0 : (zs 9218868437227405311 K).getD (4 * k) 0 = 9218868437227405311 := by rw [zs_get _ _ _ (by omega)]; unfold el; rw [if_pos (by omega)]
    have g1 : (zs 9218868437227405311 K).getD (4 * k + 1) 0 = 0 := by rw [zs_get _ _ _ (by omega)]; unfold el; rw [if_neg (by omega), if_neg (by omega)]
    have g2 : (zs 9218868437227405311 K).getD (4 * k + 1 + 1) 0 = 18442240474082181119 := by rw [zs_get _ _ _ (by omega)]; unfold el; rw [if_neg (by omega), if_pos (by omega), nnp]
    have g3 : (zs 9218868437227405311 K).getD (4 * k + 1 + 1 + 1) 0 = 0 := by rw [zs_get _ _ _ (by omega)]; unfold el; rw [if_neg (by omega), if_neg (by omega)]
    have m0 : (4 * k) % 4 = 0 := by omega
    have m1 : (4 * k + 1) % 4 = 1 := by omega
    have m2 : (4 * k + 1 + 1) % 4 = 2 := by omega
    have m3 : (4 * k + 1 + 1 + 1) % 4 = 3 := by omega
    rw [g0, m0] at s0
    rw [g1, m1] at s1
    rw [g2, m2] at s2
    rw [g3, m3] at s3
    simp only [stepR, addR, nnn, nz, im1, im2] at s0 s1 s2 s3
    obtain ⟨s0, rfl⟩ := s0
    obtain ⟨rfl, s1⟩ := s1
    simp only [im1] at s1
    subst s1
    obtain ⟨s2, rfl⟩ := s2
    obtain ⟨rfl, s3⟩ := s3
    simp only [im2] at s3
    subst s3
    refine ⟨rfl, ?_⟩
    rw [if_neg (by omega)]
    by_cases h0 : k = 0
    · subst h0
      simp only [if_true, a0p] at s0
      subst s0
      simp only [a1p] at s2
      exact s2
    · rw [if_neg h0] at s0
      simp only [a2p] at s0
      subst s0
      simp only [a2p] at s2
      exact s2
theorem a0n : Ieee.double.add 0 18442240474082181119 = some 18442240474082181119 := by kernel_rfl
theorem a1n : Ieee.double.add 18442240474082181119 18442240474082181119 = some 18442240474082181120 := by kernel_rfl
theorem a2n : Ieee.double.add 18442240474082181120 18442240474082181119 = some 18442240474082181120 := by kernel_rfl
theorem endsn (K : Nat) : ∀ k re im, k ≤ K → SumR (zs 18442240474082181119 K) (4 * k) re im → im = 0 ∧ re = if k = 0 then 0 else 18442240474082181120
  | 0, re, im, _, h => by obtain ⟨rfl, rfl⟩ := h; exact ⟨rfl, rfl⟩
  | k + 1, re, im, hk, h => by
    have e : 4 * (k + 1) = 4 * k + 1 + 1 + 1 + 1 := by omega
    rw [e] at h
    obtain ⟨c3, d3, ⟨c2, d2, ⟨c1, d1, ⟨c0, d0, h, s0⟩, s1⟩, s2⟩, s3⟩ := h
    obtain ⟨rfl, rfl⟩ := endsn K k _ _ (by omega) h
    have g0 : (zs 18442240474082181119 K).getD (4 * k) 0 = 18442240474082181119 := by rw [zs_get _ _ _ (by omega)]; unfold el; rw [if_pos (by omega)]
    have g1 : (zs 18442240474082181119 K).getD (4 * k + 1) 0 = 0 := by rw [zs_get _ _ _ (by omega)]; unfold el; rw [if_neg (by omega), if_neg (by omega)]
    have g2 : (zs 18442240474082181119 K).getD (4 * k + 1 + 1) 0 = 9218868437227405311 := by rw [zs_get _ _ _ (by omega)]; unfold el; rw [if_neg (by omega), if_pos (by omega), nnn]
    have g3 : (zs 18442240474082181119 K).getD (4 * k + 1 + 1 + 1) 0 = 0 := by rw [zs_get _ _ _ (by omega)]; unfold el; rw [if_neg (by omega), if_neg (by omega)]
    have m0 : (4 * k) % 4 = 0 := by omega
    have m1 : (4 * k + 1) % 4 = 1 := by omega
    have m2 : (4 * k + 1 + 1) % 4 = 2 := by omega
    have m3 : (4 * k + 1 + 1 + 1) % 4 = 3 := by omega
    rw [g0, m0] at s0
    rw [g1, m1] at s1
    rw [g2, m2] at s2
    rw [g3, m3] at s3
    simp only [stepR, addR, nnp, nz, im1, im2] at s0 s1 s2 s3
    obtain ⟨s0, rfl⟩ := s0
    obtain ⟨rfl, s1⟩ := s1
    simp only [im1] at s1
    subst s1
    obtain ⟨s2, rfl⟩ := s2
    obtain ⟨rfl, s3⟩ := s3
    simp only [im2] at s3
    subst s3
    refine ⟨rfl, ?_⟩
    rw [if_neg (by omega)]
    by_cases h0 : k = 0
    · subst h0
      simp only [if_true, a0n] at s0
      subst s0
      simp only [a1n] at s2
      exact s2
    · rw [if_neg h0] at s0
      simp only [a2n] at s0
      subst s0
      simp only [a2n] at s2
      exact s2
end Go.Proofs.YtnnoefbmoafbnaaDoor