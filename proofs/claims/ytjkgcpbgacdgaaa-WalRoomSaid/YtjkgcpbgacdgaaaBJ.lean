/- The plain law: with room enough nothing is refused. -/
import Derived.Test.YtjkgcpbgacdgaaaBI
namespace Go.Proofs.Ytjkgcpbgacdgaaa
open Go.RowKit
/-- No file, or the log's alone. -/
def OneWal (L : List Ent) (z : Nat) : Prop := (L = [] ∧ z = 0) ∨ ∃ e, L = [e] ∧ e.name = nWal ∧ e.bs.length = z
theorem OneWal.lens {L : List Ent} {z : Nat} (h : OneWal L z) : lens L = z := by
  rcases h with ⟨rfl, rfl⟩ | ⟨e, rfl, _, h⟩
  · rfl
  · simpa [Ytjkgcpbgacdgaaa.lens] using h
theorem says_ok {L L' : List Ent} {room : Int} {s : ByteArray} {xs : List Value} {j : Nat} {err : Int} (hn : nameB s.data.toList = true) (hr : (lens L : Int) + xs.length ≤ room) (h : AppSays L room (-1) false s xs L' j err) : err = 0 ∧ ∃ f v, L' = addE L s f v xs := by
  rcases h with ⟨h1, _⟩ | ⟨_, h1, _⟩ | ⟨_, _, h1, _⟩ | ⟨_, _, _, hj, he, f, v, hL⟩
  · cases h1
  · rw [hn] at h1; cases h1
  · exact absurd rfl h1
  · have hjx : j = xs.length := by rw [hj]; unfold appN; omega
    refine ⟨by rw [he, if_neg (by omega)], f, v, ?_⟩
    rw [hL, hjx, List.take_length]
theorem grow_ok {L L' : List Ent} {room sz : Int} {z : Nat} {xs : List Value} {fuse' : Int} {down' : Bool} {e : Int} (h0 : 0 < z) (h : OneWal L z) (hr : (z : Int) + xs.length ≤ room) (hs : GrowSays L room (-1) false sz xs L' fuse' down' e) : e = 0 ∧ fuse' = -1 ∧ down' = false ∧ OneWal L' (z + xs.length) := by
  obtain ⟨L1, j, e1, ha, hc⟩ := hs
  obtain ⟨rfl, f, v, rfl⟩ := says_ok (by decide) (by rw [h.lens]; exact hr) ha
  rcases h with ⟨_, h9⟩ | ⟨x, rfl, hx, hz⟩
  · omega
  have hlk : look [x] nWal = some x := by unfold look; simp [hx]
  have hL1 : addE [x] nWal f v xs = [⟨x.name, x.f, v, x.bs ++ xs, x.syn⟩] := by unfold addE; rw [hlk]; simp [setF, hx]
  have hlk1 : look (addE [x] nWal f v xs) nWal = some ⟨x.name, x.f, v, x.bs ++ xs, x.syn⟩ := by rw [hL1]; unfold look; simp [hx]
  have hF : apF (-1) false nWal = -1 := by decide
  have hD : apD (-1) false nWal = false := by decide
  rw [hF, hD] at hc
  have hg : getE (addE [x] nWal f v xs) false nWal = (some ⟨x.name, x.f, v, x.bs ++ xs, x.syn⟩, 0) := by unfold getE; rw [hlk1]; rfl
  have hE : chE (addE [x] nWal f v xs) (-1) false nWal = 0 := by unfold chE; rw [hg]; rfl
  have hF2 : chF (addE [x] nWal f v xs) (-1) false nWal = -1 := by unfold chF; rw [hg]; rfl
  have hD2 : chD (addE [x] nWal f v xs) (-1) false nWal = false := by unfold chD; rw [hg]; rfl
  rcases hc with ⟨h1, _⟩ | ⟨_, hL, hf, hd, he⟩ | ⟨h1, _⟩
  · cases h1
  · refine ⟨by rw [he, hE], by rw [hf, hF2], by rw [hd, hD2], ?_⟩
    rw [hL]
    unfold syncL
    rw [if_pos hE, hlk1]
    show OneWal (setF (addE [x] nWal f v xs) nWal v (x.bs ++ xs) ((x.bs ++ xs).length : Nat)) (z + xs.length)
    rw [hL1]
    exact .inr ⟨⟨x.name, x.f, v, x.bs ++ xs, ((x.bs ++ xs).length : Nat)⟩, by simp [setF, hx], hx, by simp [hz]⟩
  · exact absurd rfl h1
theorem ne_names : (nWal.data.toList == nNew.data.toList) = false ∧ (nNew.data.toList == nWal.data.toList) = false := by decide
theorem ne_data : ¬ nWal.data = nNew.data := by decide
theorem before_names : (key nNew).before (key nWal) = false := by decide
theorem anew_fin {L : List Ent} {N : Ent} (hN : N.name = nNew) (h : L = [N] ∨ ∃ x : Ent, x.name = nWal ∧ L = [x, N]) : ∃ syn, renL (syncL L (-1) false nNew) (-1) false nNew nWal = [⟨nWal, N.f, N.v, N.bs, syn⟩] ∧ chE L (-1) false nNew = 0 ∧ chF L (-1) false nNew = -1 ∧ chD L (-1) false nNew = false ∧ renE (syncL L (-1) false nNew) (-1) false nNew nWal = 0 ∧ renF (syncL L (-1) false nNew) (-1) false nNew nWal = -1 ∧ renD (syncL L (-1) false nNew) (-1) false nNew nWal = false := by
  have hw : nameB nWal.data.toList = true := by decide
  have key1 : ∀ M : List Ent, (M = [⟨nNew, N.f, N.v, N.bs, N.bs.length⟩] ∨ ∃ x : Ent, x.name = nWal ∧ M = [x, ⟨nNew, N.f, N.v, N.bs, N.bs.length⟩]) → look M nNew = some ⟨nNew, N.f, N.v, N.bs, N.bs.length⟩ ∧ dropE (dropE M nNew) nWal = [] := fun M hM => by
    rcases hM with rfl | ⟨x, hx, rfl⟩
    · exact ⟨by simp [look], by simp [dropE]⟩
    · exact ⟨by simp [look, hx, ne_data], by simp [dropE, hx, ne_data]⟩
  have hlk : look L nNew = some N := by
    rcases h with rfl | ⟨x, hx, rfl⟩
    · simp [look, hN]
    · simp [look, hN, hx, ne_data]
  have hg : getE L false nNew = (some N, 0) := by unfold getE; rw [hlk]; rfl
  have hE : chE L (-1) false nNew = 0 := by unfold chE; rw [hg]; rfl
  have hS : syncL L (-1) false nNew = [⟨nNew, N.f, N.v, N.bs, N.bs.length⟩] ∨ ∃ x : Ent, x.name = nWal ∧ syncL L (-1) false nNew = [x, ⟨nNew, N.f, N.v, N.bs, N.bs.length⟩] := by
    have : syncL L (-1) false nNew = setF L nNew N.v N.bs (N.bs.length : Nat) := by unfold syncL; rw [if_pos hE, hlk]
    rw [this]
    rcases h with rfl | ⟨x, hx, rfl⟩
    · exact .inl (by simp [setF, hN])
    · exact .inr ⟨x, hx, by simp [setF, hN, hx, ne_data]⟩
  obtain ⟨hl2, hd2⟩ := key1 _ hS
  have hg2 : getE (syncL L (-1) false nNew) false nNew = (some ⟨nNew, N.f, N.v, N.bs, N.bs.length⟩, 0) := by unfold getE; rw [hl2]; rfl
  have hR : renE (syncL L (-1) false nNew) (-1) false nNew nWal = 0 := by unfold renE; rw [hg2]; rw [if_pos rfl, if_pos hw]; rfl
  refine ⟨(N.bs.length : Nat), ?_, hE, by unfold chF; rw [hg]; rfl, by unfold chD; rw [hg]; rfl, hR, by unfold renF; rw [hg2]; rw [if_pos ⟨rfl, hw⟩]; rfl, by unfold renD; rw [hg2]; rw [if_pos ⟨rfl, hw⟩]; rfl⟩
  unfold renL
  rw [if_pos hR, hl2]
  show insE _ (dropE (dropE (syncL L (-1) false nNew) nNew) nWal) = _
  rw [hd2]; rfl
theorem anew_ok {L L' : List Ent} {room : Int} {z : Nat} {xs : List Value} {fuse' : Int} {down' : Bool} {e : Int} (h : OneWal L z) (hr : (z : Int) + xs.length ≤ room) (hs : AnewSays L room (-1) false xs L' fuse' down' e) : e = 0 ∧ fuse' = -1 ∧ down' = false ∧ OneWal L' xs.length := by
  obtain ⟨L1, j, e1, ha, hc⟩ := hs
  obtain ⟨rfl, f, v, rfl⟩ := says_ok (by decide) (by rw [h.lens]; exact hr) ha
  have hF : apF (-1) false nNew = -1 := by decide
  have hD : apD (-1) false nNew = false := by decide
  rw [hF, hD] at hc
  have hL1 : addE L nNew f v xs = [⟨nNew, f, v, xs, 0⟩] ∨ ∃ x : Ent, x.name = nWal ∧ addE L nNew f v xs = [x, ⟨nNew, f, v, xs, 0⟩] := by
    rcases h with ⟨rfl, _⟩ | ⟨x, rfl, hx, _⟩
    · exact .inl rfl
    · refine .inr ⟨x, hx, ?_⟩
      have : look [x] nNew = none := by simp [look, hx, ne_data]
      unfold addE
      rw [this]
      simp [insE, hx, before_names]
  obtain ⟨syn, g1, g2, g3, g4, g5, g6, g7⟩ := anew_fin (N := ⟨nNew, f, v, xs, 0⟩) rfl hL1
  rcases hc with ⟨h1, _⟩ | ⟨_, h1, _⟩ | ⟨_, _, L2, f2, d2, rfl, rfl, rfl, hL, hf, hd, he⟩ | ⟨h1, _⟩
  · cases h1
  · exact absurd g2 h1
  · rw [g3, g4] at hL hf hd he
    exact ⟨by rw [he, g5], by rw [hf, g6], by rw [hd, g7], by rw [hL, g1]; exact .inr ⟨_, rfl, rfl, rfl⟩⟩
  · exact absurd rfl h1
end Go.Proofs.Ytjkgcpbgacdgaaa
