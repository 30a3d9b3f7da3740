/- What the wal's law asks first: it is awake. No condition. -/
import Derived.Test.YtjkgcpbgacdgaaaBJ
namespace Go.Proofs.Ytjkgcpbgacdgaaa
open Go.RowKit
/-- An append with room enough. -/
theorem append_ok {L L' : List Ent} {room first size size' : Int} {z : Nat} {X X' : List (List Value)} {b : List Value} {fuse' : Int} {down' over' : Bool} {er : Int} (h : OneWal L z) (hz : size = z) (hr : (z : Int) + 16 + b.length ≤ room) (hs : AppendSays L room (-1) false first X size false b L' fuse' down' X' size' over' er) :
    (b.length = 0 ∨ 1048576 < b.length) ∧ er = 1 ∧ L' = L ∧ fuse' = -1 ∧ down' = false ∧ X' = X ∧ size' = size ∧ over' = false ∨
    (0 < b.length ∧ b.length ≤ 1048576) ∧ er = 0 ∧ fuse' = -1 ∧ down' = false ∧ X' = X ++ [b] ∧ over' = false ∧ ∃ z', OneWal L' z' ∧ size' = z' ∧ z' ≤ z + 16 + b.length ∧ 0 < z' := by
  rcases hs with ⟨h1, _⟩ | ⟨_, h1, h2, h3, h4, h5, h6, h7, h8⟩ | ⟨_, h1, h2, h3, h4, h5 | h5⟩
  · cases h1
  · exact .inl ⟨h1, h2, h3, h4, h5, h6, h7, h8⟩
  · obtain ⟨h5, h6, h7⟩ := h5
    have hl : (contL first [((Value.slice none 0 0, b) : Value × List Value)]).length = 16 + b.length := by simp [contL, frameL, numL_len, markL]; omega
    obtain ⟨rfl, rfl, rfl, h8⟩ := anew_ok h (by rw [hl]; omega) h7
    rw [hl] at h8
    refine .inr ⟨⟨h1, h2⟩, rfl, rfl, rfl, by rw [h4, if_pos rfl], h3, _, h8, by rw [h6, if_pos rfl, hl], by omega, by omega⟩
  · obtain ⟨h5, h6, h7⟩ := h5
    have hl : (frameL b).length = 4 + b.length := by simp [frameL, numL_len]
    obtain ⟨rfl, rfl, rfl, h8⟩ := grow_ok (by omega) h (by rw [hl]; omega) h7
    rw [hl] at h8
    refine .inr ⟨⟨h1, h2⟩, rfl, rfl, rfl, by rw [h4, if_pos rfl], h3, _, h8, by rw [h6, if_pos rfl, hl, hz]; omega, by omega, by omega⟩
/-- A trim with room enough. -/
theorem trim_ok {L L' : List Ent} {room first first' size size' : Int} {z k : Nat} {X X' : List (List Value)} {n : Int} {fuse' : Int} {down' over' : Bool} {er : Int} (h : OneWal L z) (hn : n = first + k) (hk : k ≤ X.length) (hr : (z : Int) + (contL n ((X.drop k).map fun x => (.slice none 0 0, x))).length ≤ room) (hs : TrimSays L room (-1) false first X size false n L' fuse' down' first' X' size' over' er) :
    er = 0 ∧ fuse' = -1 ∧ down' = false ∧ first' = n ∧ X' = X.drop k ∧ over' = false ∧ ((k = 0 ∧ L' = L ∧ size' = size) ∨ (0 < k ∧ OneWal L' (contL n ((X.drop k).map fun x => (.slice none 0 0, x))).length ∧ size' = ((contL n ((X.drop k).map fun x => (.slice none 0 0, x))).length : Nat))) := by
  rcases hs with ⟨h1, _⟩ | ⟨_, h1, _⟩ | ⟨_, h1, h2, h3, h4, h5, h6, h7, h8, h9⟩ | ⟨_, k', h1, h2, h3, h4, h5, h6, h7, h8⟩
  · cases h1
  · exfalso; omega
  · have hk0 : k = 0 := by omega
    subst hk0
    exact ⟨h2, h4, h5, by rw [h6, h1], by rw [h7]; rfl, h9, .inl ⟨rfl, h3, h8⟩⟩
  · have hkk : k' = k := by omega
    subst hkk
    obtain ⟨rfl, rfl, rfl, h9⟩ := anew_ok h hr h8
    exact ⟨rfl, rfl, rfl, by rw [h5, if_pos rfl], by rw [h6, if_pos rfl], h4, .inr ⟨h2, h9, by rw [h7, if_pos rfl]⟩⟩
end Go.Proofs.Ytjkgcpbgacdgaaa
