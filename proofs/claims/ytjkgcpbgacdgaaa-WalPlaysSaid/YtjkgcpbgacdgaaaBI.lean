/- The log opened on a disk of no files. No condition but that. -/
import Derived.Test.YtjkgcpbgacdgaaaBH
namespace Go.Proofs.Ytjkgcpbgacdgaaa
open Go.RowKit
theorem Turns.low {W w : World} (h : Turns (fun _ => False) W w) : Below W.heap.size W w := h.below (Nat.le_refl _) fun _ e => e.elim
set_option maxRecDepth 100000 in
theorem openNew (W w : World) (S : Nat → Prop) (d m : Nat) (room : Int) (h : DiskAt w S d m [] room (-1) false) (hlow : ∀ k, S k → W.heap.size ≤ k ∧ k < w.heap.size) (hb : Below W.heap.size W w) :
    Calls Try.prog 17 #[.pointer (some ⟨d, 0, none⟩)] w fun e w' => ∃ S' T l, e = .returned (.tuple #[.pointer (some ⟨l, 0, none⟩), .int .i64 0]) ∧ Wal (fun _ => False) W w' S' T d m [] room (-1) false l 0 (.slice none 0 0) [] 0 false := by
  have HH := Lib.hid h
  have HLO := Lib.hid hlow
  have HB := Lib.hid hb
  have hbx := (Below.refl w.heap.size w).alloc (Nat.le_refl _) (logO d 0 (.slice none 0 0) 0 false)
  have hl1 : (w.alloc (logO d 0 (.slice none 0 0) 0 false)).heap[w.heap.size]? = some (logO d 0 (.slice none 0 0) 0 false) := heap_alloc_new w _
  have HD1 := Lib.hid (h.later hbx)
  have HB1 := Lib.hid (hb.trans (hbx.mono hb.size))
  have HL1 := Lib.hid hl1
  have e1 : chE [] (-1) false nNew = 6 := by decide
  have e2 : (getE [] false nWal).2 = 6 := by decide
  clear h hlow hb hbx hl1
  go_enter Try.func17, Try.ntmps17
  go_wp2_with fail
  refine (down28 w S d m [] room _ _ HH.out).mono ?_
  rintro e w1 ⟨rfl, hw⟩
  obtain rfl := hw.symm
  have e3 : remL [] (-1) false nNew = [] := by unfold remL; rw [e1]; rfl
  have e4 : chF [] (-1) false nNew = -1 := by decide
  have e5 : chD [] (-1) false nNew = false := by decide
  have hrm := remove _ S d m [] room (-1) false nNew (by decide) HD1.out (by decide) (by decide)
  rw [e1, e3, e4, e5] at hrm
  have HRM := Lib.hid hrm
  have E2 := Lib.hid e2
  clear hrm e1 e2 e3 e4 e5
  go_wp2_with fail
  refine HRM.out.mono ?_
  rintro e w2 ⟨rfl, ht2, hs2, hd2⟩
  have hl2 := (ht2.block _ (blk_lt HL1.out) (fun e => by have := (HLO.out _ e).2; omega)).trans HL1.out
  have HL2 := Lib.hid hl2
  have HD2 := Lib.hid hd2
  have HB2 := Lib.hid (HB1.out.trans (ht2.below HB1.out.size (fun k hk => (HLO.out k hk).1)))
  have HS2 := Lib.hid (show w.heap.size + 1 = w2.heap.size by rw [hs2]; simp)
  have hrd := read w2 S d m [] room (-1) false nWal (by decide) hd2 (fun e he => by cases he)
  rw [E2.out] at hrd
  have HRD := Lib.hid hrd
  clear hl2 hd2 ht2 hs2 hrd
  go_wp2_with fail
  refine HRD.out.mono ?_
  rintro e w3 ⟨v, rfl, hr3, hb3⟩
  obtain ⟨ra, rc, rfl⟩ := row_form hr3
  have HB3 := Lib.hid hb3
  clear hr3 hb3
  go_wp2_with fail
  go_ret2
  refine ⟨S, fun k => k = w.heap.size, w.heap.size, rfl, HD2.out.later HB3.out, ⟨(HB3.out.block _ (blk_lt HL2.out)).trans HL2.out, World.ownsRow_nil _ _ _ _, (fun x hx => nomatch hx), rfl, fun g hg => ?_, (fun x hx => nomatch hx)⟩, fun k hk e => ?_, fun k hk => ?_, Turns.of_below (HB2.out.trans (HB3.out.mono HB2.out.size))⟩
  · rcases hg with hg | ⟨x, hx, _⟩
    · cases hg
    · cases hx
  · have := (HLO.out k hk).2; omega
  · have h1 := HB3.out.size
    have h2 := HS2.out
    have h3 := HB.out.size
    rcases hk with hk | hk
    · have := HLO.out k hk; exact ⟨.inr this.1, by omega⟩
    · exact ⟨.inr (by omega), by omega⟩
end Go.Proofs.Ytjkgcpbgacdgaaa
/- The plain law: with room enough nothing is refused. -/
namespace Go.Proofs.Ytjkgcpbgacdgaaa
open Go.RowKit
/-- No file, or the log's alone. -/
def OneWal (L : List Ent) (z : Nat) : Prop := (L = [] ∧ z = 0) ∨ ∃ e, L = [e] ∧ e.name = nWal ∧ e.bs.length = z
theorem OneWal.lens {L : List Ent} {z : Nat} (h : OneWal L z) : lens L = z := by
  rcases h with ⟨rfl, rfl⟩ | ⟨e, rfl, _, h⟩
  · rfl
  · simpa [Ytjkgcpbgacdgaaa.lens] using h
theorem says_ok {L L' : List Ent} {room : Int} {s : ByteArray} {xs : List Value} {j : Nat} {err : Int} (hn : nameB s.data.toList = true) (hr : (lens L : Int) + xs.length ≤ room) (h : AppSays L room (-1) false s xs L' j err) : err = 0 ∧ ∃ f v, L' = addE L s f v xs := by
  rcases h with ⟨h1, _⟩ | ⟨_, h1, _⟩ | ⟨_, _, h1, _⟩ | ⟨_, _, _, hj, he, f, v, hL⟩
  · cases h1
  · rw [hn] at h1; cases h1
  · exact absurd rfl h1
  · have hjx : j = xs.length := by rw [hj]; unfold appN; omega
    refine ⟨by rw [he, if_neg (by omega)], f, v, ?_⟩
    rw [hL, hjx, List.take_length]
theorem grow_ok {L L' : List Ent} {room sz : Int} {z : Nat} {xs : List Value} {fuse' : Int} {down' : Bool} {e : Int} (h0 : 0 < z) (h : OneWal L z) (hr : (z : Int) + xs.length ≤ room) (hs : GrowSays L room (-1) false sz xs L' fuse' down' e) : e = 0 ∧ fuse' = -1 ∧ down' = false ∧ OneWal L' (z + xs.length) := by
  obtain ⟨L1, j, e1, ha, hc⟩ := hs
  obtain ⟨rfl, f, v, rfl⟩ := says_ok (by decide) (by rw [h.lens]; exact hr) ha
  rcases h with ⟨_, h9⟩ | ⟨x, rfl, hx, hz⟩
  · omega
  have hlk : look [x] nWal = some x := by unfold look; simp [hx]
  have hL1 : addE [x] nWal f v xs = [⟨x.name, x.f, v, x.bs ++ xs, x.syn⟩] := by unfold addE; rw [hlk]; simp [setF, hx]
  have hlk1 : look (addE [x] nWal f v xs) nWal = some ⟨x.name, x.f, v, x.bs ++ xs, x.syn⟩ := by rw [hL1]; unfold look; simp [hx]
  have hF : apF (-1) false nWal = -1 := by decide
  have hD : apD (-1) false nWal = false := by decide
  rw [hF, hD] at hc
  have hg : getE (addE [x] nWal f v xs) false nWal = (some ⟨x.name, x.f, v, x.bs ++ xs, x.syn⟩, 0) := by unfold getE; rw [hlk1]; rfl
  have hE : chE (addE [x] nWal f v xs) (-1) false nWal = 0 := by unfold chE; rw [hg]; rfl
  have hF2 : chF (addE [x] nWal f v xs) (-1) false nWal = -1 := by unfold chF; rw [hg]; rfl
  have hD2 : chD (addE [x] nWal f v xs) (-1) false nWal = false := by unfold chD; rw [hg]; rfl
  rcases hc with ⟨h1, _⟩ | ⟨_, hL, hf, hd, he⟩ | ⟨h1, _⟩
  · cases h1
  · refine ⟨by rw [he, hE], by rw [hf, hF2], by rw [hd, hD2], ?_⟩
    rw [hL]
    unfold syncL
    rw [if_pos hE, hlk1]
    show OneWal (setF (addE [x] nWal f v xs) nWal v (x.bs ++ xs) ((x.bs ++ xs).length : Nat)) (z + xs.length)
    rw [hL1]
    exact .inr ⟨⟨x.name, x.f, v, x.bs ++ xs, ((x.bs ++ xs).length : Nat)⟩, by simp [setF, hx], hx, by simp [hz]⟩
  · exact absurd rfl h1
theorem ne_names : (nWal.data.toList == nNew.data.toList) = false ∧ (nNew.data.toList == nWal.data.toList) = false := by decide
theorem ne_data : ¬ nWal.data = nNew.data := by decide
theorem before_names : (key nNew).before (key nWal) = false := by decide
theorem anew_fin {L : List Ent} {N : Ent} (hN : N.name = nNew) (h : L = [N] ∨ ∃ x : Ent, x.name = nWal ∧ L = [x, N]) : ∃ syn, renL (syncL L (-1) false nNew) (-1) false nNew nWal = [⟨nWal, N.f, N.v, N.bs, syn⟩] ∧ chE L (-1) false nNew = 0 ∧ chF L (-1) false nNew = -1 ∧ chD L (-1) false nNew = false ∧ renE (syncL L (-1) false nNew) (-1) false nNew nWal = 0 ∧ renF (syncL L (-1) false nNew) (-1) false nNew nWal = -1 ∧ renD (syncL L (-1) false nNew) (-1) false nNew nWal = false := by
  have hw : nameB nWal.data.toList = true := by decide
  have key1 : ∀ M : List Ent, (M = [⟨nNew, N.f, N.v, N.bs, N.bs.length⟩] ∨ ∃ x : Ent, x.name = nWal ∧ M = [x, ⟨nNew, N.f, N.v, N.bs, N.bs.length⟩]) → look M nNew = some ⟨nNew, N.f, N.v, N.bs, N.bs.length⟩ ∧ dropE (dropE M nNew) nWal = [] := fun M hM => by
    rcases hM with rfl | ⟨x, hx, rfl⟩
    · exact ⟨by simp [look], by simp [dropE]⟩
    · exact ⟨by simp [look, hx, ne_data], by simp [dropE, hx, ne_data]⟩
  have hlk : look L nNew = some N := by
    rcases h with rfl | ⟨x, hx, rfl⟩
    · simp [look, hN]
    · simp [look, hN, hx, ne_data]
  have hg : getE L false nNew = (some N, 0) := by unfold getE; rw [hlk]; rfl
  have hE : chE L (-1) false nNew = 0 := by unfold chE; rw [hg]; rfl
  have hS : syncL L (-1) false nNew = [⟨nNew, N.f, N.v, N.bs, N.bs.length⟩] ∨ ∃ x : Ent, x.name = nWal ∧ syncL L (-1) false nNew = [x, ⟨nNew, N.f, N.v, N.bs, N.bs.length⟩] := by
    have : syncL L (-1) false nNew = setF L nNew N.v N.bs (N.bs.length : Nat) := by unfold syncL; rw [if_pos hE, hlk]
    rw [this]
    rcases h with rfl | ⟨x, hx, rfl⟩
    · exact .inl (by simp [setF, hN])
    · exact .inr ⟨x, hx, by simp [setF, hN, hx, ne_data]⟩
  obtain ⟨hl2, hd2⟩ := key1 _ hS
  have hg2 : getE (syncL L (-1) false nNew) false nNew = (some ⟨nNew, N.f, N.v, N.bs, N.bs.length⟩, 0) := by unfold getE; rw [hl2]; rfl
  have hR : renE (syncL L (-1) false nNew) (-1) false nNew nWal = 0 := by unfold renE; rw [hg2]; rw [if_pos rfl, if_pos hw]; rfl
  refine ⟨(N.bs.length : Nat), ?_, hE, by unfold chF; rw [hg]; rfl, by unfold chD; rw [hg]; rfl, hR, by unfold renF; rw [hg2]; rw [if_pos ⟨rfl, hw⟩]; rfl, by unfold renD; rw [hg2]; rw [if_pos ⟨rfl, hw⟩]; rfl⟩
  unfold renL
  rw [if_pos hR, hl2]
  show insE _ (dropE (dropE (syncL L (-1) false nNew) nNew) nWal) = _
  rw [hd2]; rfl
theorem anew_ok {L L' : List Ent} {room : Int} {z : Nat} {xs : List Value} {fuse' : Int} {down' : Bool} {e : Int} (h : OneWal L z) (hr : (z : Int) + xs.length ≤ room) (hs : AnewSays L room (-1) false xs L' fuse' down' e) : e = 0 ∧ fuse' = -1 ∧ down' = false ∧ OneWal L' xs.length := by
  obtain ⟨L1, j, e1, ha, hc⟩ := hs
  obtain ⟨rfl, f, v, rfl⟩ := says_ok (by decide) (by rw [h.lens]; exact hr) ha
  have hF : apF (-1) false nNew = -1 := by decide
  have hD : apD (-1) false nNew = false := by decide
  rw [hF, hD] at hc
  have hL1 : addE L nNew f v xs = [⟨nNew, f, v, xs, 0⟩] ∨ ∃ x : Ent, x.name = nWal ∧ addE L nNew f v xs = [x, ⟨nNew, f, v, xs, 0⟩] := by
    rcases h with ⟨rfl, _⟩ | ⟨x, rfl, hx, _⟩
    · exact .inl rfl
    · refine .inr ⟨x, hx, ?_⟩
      have : look [x] nNew = none := by simp [look, hx, ne_data]
      unfold addE
      rw [this]
      simp [insE, hx, before_names]
  obtain ⟨syn, g1, g2, g3, g4, g5, g6, g7⟩ := anew_fin (N := ⟨nNew, f, v, xs, 0⟩) rfl hL1
  rcases hc with ⟨h1, _⟩ | ⟨_, h1, _⟩ | ⟨_, _, L2, f2, d2, rfl, rfl, rfl, hL, hf, hd, he⟩ | ⟨h1, _⟩
  · cases h1
  · exact absurd g2 h1
  · rw [g3, g4] at hL hf hd he
    exact ⟨by rw [he, g5], by rw [hf, g6], by rw [hd, g7], by rw [hL, g1]; exact .inr ⟨_, rfl, rfl, rfl⟩⟩
  · exact absurd rfl h1
end Go.Proofs.Ytjkgcpbgacdgaaa
/- What the wal's law asks first: it is awake. No condition. -/
namespace Go.Proofs.Ytjkgcpbgacdgaaa
open Go.RowKit
/-- An append with room enough. -/
theorem append_ok {L L' : List Ent} {room first size size' : Int} {z : Nat} {X X' : List (List Value)} {b : List Value} {fuse' : Int} {down' over' : Bool} {er : Int} (h : OneWal L z) (hz : size = z) (hr : (z : Int) + 16 + b.length ≤ room) (hs : AppendSays L room (-1) false first X size false b L' fuse' down' X' size' over' er) :
    (b.length = 0 ∨ 1048576 < b.length) ∧ er = 1 ∧ L' = L ∧ fuse' = -1 ∧ down' = false ∧ X' = X ∧ size' = size ∧ over' = false ∨
    (0 < b.length ∧ b.length ≤ 1048576) ∧ er = 0 ∧ fuse' = -1 ∧ down' = false ∧ X' = X ++ [b] ∧ over' = false ∧ ∃ z', OneWal L' z' ∧ size' = z' ∧ z' ≤ z + 16 + b.length ∧ 0 < z' := by
  rcases hs with ⟨h1, _⟩ | ⟨_, h1, h2, h3, h4, h5, h6, h7, h8⟩ | ⟨_, h1, h2, h3, h4, h5 | h5⟩
  · cases h1
  · exact .inl ⟨h1, h2, h3, h4, h5, h6, h7, h8⟩
  · obtain ⟨h5, h6, h7⟩ := h5
    have hl : (contL first [((Value.slice none 0 0, b) : Value × List Value)]).length = 16 + b.length := by simp [contL, frameL, numL_len, markL]; omega
    obtain ⟨rfl, rfl, rfl, h8⟩ := anew_ok h (by rw [hl]; omega) h7
    rw [hl] at h8
    refine .inr ⟨⟨h1, h2⟩, rfl, rfl, rfl, by rw [h4, if_pos rfl], h3, _, h8, by rw [h6, if_pos rfl, hl], by omega, by omega⟩
  · obtain ⟨h5, h6, h7⟩ := h5
    have hl : (frameL b).length = 4 + b.length := by simp [frameL, numL_len]
    obtain ⟨rfl, rfl, rfl, h8⟩ := grow_ok (by omega) h (by rw [hl]; omega) h7
    rw [hl] at h8
    refine .inr ⟨⟨h1, h2⟩, rfl, rfl, rfl, by rw [h4, if_pos rfl], h3, _, h8, by rw [h6, if_pos rfl, hl, hz]; omega, by omega, by omega⟩
/-- A trim with room enough. -/
theorem trim_ok {L L' : List Ent} {room first first' size size' : Int} {z k : Nat} {X X' : List (List Value)} {n : Int} {fuse' : Int} {down' over' : Bool} {er : Int} (h : OneWal L z) (hn : n = first + k) (hk : k ≤ X.length) (hr : (z : Int) + (contL n ((X.drop k).map fun x => (.slice none 0 0, x))).length ≤ room) (hs : TrimSays L room (-1) false first X size false n L' fuse' down' first' X' size' over' er) :
    er = 0 ∧ fuse' = -1 ∧ down' = false ∧ first' = n ∧ X' = X.drop k ∧ over' = false ∧ ((k = 0 ∧ L' = L ∧ size' = size) ∨ (0 < k ∧ OneWal L' (contL n ((X.drop k).map fun x => (.slice none 0 0, x))).length ∧ size' = ((contL n ((X.drop k).map fun x => (.slice none 0 0, x))).length : Nat))) := by
  rcases hs with ⟨h1, _⟩ | ⟨_, h1, _⟩ | ⟨_, h1, h2, h3, h4, h5, h6, h7, h8, h9⟩ | ⟨_, k', h1, h2, h3, h4, h5, h6, h7, h8⟩
  · cases h1
  · exfalso; omega
  · have hk0 : k = 0 := by omega
    subst hk0
    exact ⟨h2, h4, h5, by rw [h6, h1], by rw [h7]; rfl, h9, .inl ⟨rfl, h3, h8⟩⟩
  · have hkk : k' = k := by omega
    subst hkk
    obtain ⟨rfl, rfl, rfl, h9⟩ := anew_ok h hr h8
    exact ⟨rfl, rfl, rfl, by rw [h5, if_pos rfl], by rw [h6, if_pos rfl], h4, .inr ⟨h2, h9, by rw [h7, if_pos rfl]⟩⟩
end Go.Proofs.Ytjkgcpbgacdgaaa
