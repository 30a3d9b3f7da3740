/- The plain law of a crash: what a write leaves, if it is done, refused or lost. No condition. -/
import Derived.Test.YtjkgcpbgacdgaaaBV
namespace Go.Proofs.Ytjkgcpbgacdgaaa
open Go.RowKit
def FuseOk (fuse : Int) : Prop := -1 ≤ fuse ∧ fuse < 2 ^ 63
theorem FuseOk.op {fuse : Int} (h : FuseOk fuse) : FuseOk (opF fuse) := by
  unfold FuseOk at *
  unfold opF
  split <;> omega
theorem op_two {fuse : Int} : (opE fuse = 0 ∧ opD fuse false = false) ∨ (opE fuse = 8 ∧ opD fuse false = true) := by
  unfold opE opD
  by_cases h : fuse = 0
  · right; rw [if_pos h, if_pos h]; exact ⟨rfl, rfl⟩
  · left; rw [if_neg h, if_neg h]; exact ⟨rfl, rfl⟩
theorem name_wal : nameB nWal.data.toList = true := by decide
theorem name_new : nameB nNew.data.toList = true := by decide
theorem ap_wal (fuse : Int) : apF fuse false nWal = opF fuse ∧ apD fuse false nWal = opD fuse false := by unfold apF apD; rw [name_wal]; exact ⟨rfl, rfl⟩
theorem ap_new (fuse : Int) : apF fuse false nNew = opF fuse ∧ apD fuse false nNew = opD fuse false := by unfold apF apD; rw [name_new]; exact ⟨rfl, rfl⟩
theorem ch_some {L : List Ent} {s : ByteArray} {e : Ent} (h : look L s = some e) (fuse : Int) : chE L fuse false s = opE fuse ∧ chF L fuse false s = opF fuse ∧ chD L fuse false s = opD fuse false := by
  have hg : getE L false s = (some e, 0) := by unfold getE; rw [h]; rfl
  exact ⟨by unfold chE; rw [hg]; rfl, by unfold chF; rw [hg]; rfl, by unfold chD; rw [hg]; rfl⟩
theorem ch_none {L : List Ent} {s : ByteArray} (h : look L s = none) (fuse : Int) : chE L fuse false s = 6 ∧ chF L fuse false s = fuse ∧ chD L fuse false s = false := by
  have hg : getE L false s = (none, 6) := by unfold getE; rw [h]; rfl
  exact ⟨by unfold chE; rw [hg]; rfl, by unfold chF; rw [hg]; rfl, by unfold chD; rw [hg]; rfl⟩
theorem look_w {e : Ent} (h : e.name = nWal) (R : List Ent) : look (e :: R) nWal = some e := by simp [look, h]
theorem sync_w {e : Ent} (h : e.name = nWal) (fuse : Int) (h0 : opE fuse = 0) : syncL [e] fuse false nWal = [⟨nWal, e.f, e.v, e.bs, e.bs.length⟩] := by
  unfold syncL
  rw [(ch_some (look_w h []) fuse).1, if_pos h0, look_w h]
  simp [setF, h]
theorem sync_w8 {e : Ent} (h : e.name = nWal) (fuse : Int) (h0 : opE fuse = 8) : syncL [e] fuse false nWal = [e] := by
  unfold syncL
  rw [(ch_some (look_w h []) fuse).1, if_neg (by omega)]
theorem cut_w {e : Ent} (h : e.name = nWal) (fuse : Int) (z : Nat) (hz : z ≤ e.bs.length) : cutE [e] fuse false nWal z = opE fuse ∧ cutF [e] fuse false nWal z = opF fuse ∧ cutD [e] fuse false nWal z = opD fuse false ∧ cutL [e] fuse false nWal z = (if opE fuse = 0 then [⟨nWal, e.f, cutV e.v z, e.bs.take z, min e.syn z⟩] else [e]) := by
  have hlk := look_w h []
  have hg : getE [e] false nWal = (some e, 0) := by unfold getE; rw [hlk]; rfl
  have hio : isOut (getE [e] false nWal).1 z = false := by rw [hg]; simp [isOut]; omega
  obtain ⟨c1, c2, c3⟩ := ch_some hlk fuse
  have hE : cutE [e] fuse false nWal z = opE fuse := by unfold cutE; rw [hio, c1]; rfl
  refine ⟨hE, by unfold cutF; rw [hio, c2]; rfl, by unfold cutD; rw [hio, c3]; rfl, ?_⟩
  unfold cutL
  rw [hE, hlk]
  split
  · simp [setF, h]
  · rfl
theorem grow_law {e : Ent} (hn : e.name = nWal) {room fuse : Int} {xs : List Value} {L' : List Ent} {fuse' er : Int} {down' : Bool} (hsyn : e.syn = e.bs.length) (hfu : FuseOk fuse) (hs : GrowSays [e] room fuse false (e.bs.length : Nat) xs L' fuse' down' er) :
    FuseOk fuse' ∧ ((er = 0 ∧ down' = false ∧ ∃ f v, L' = [⟨nWal, f, v, e.bs ++ xs, (e.bs ++ xs).length⟩]) ∨
    (er = 7 ∧ down' = false ∧ ∃ f v, L' = [⟨nWal, f, v, e.bs, e.bs.length⟩]) ∨
    (er = 8 ∧ down' = true ∧ ∃ f v j, L' = [⟨nWal, f, v, e.bs ++ xs.take j, e.bs.length⟩])) := by
  have heta : ∀ e : Ent, e.name = nWal → e = ⟨nWal, e.f, e.v, e.bs, e.syn⟩ := fun e h => by cases e; simp only at h; subst h; rfl
  obtain ⟨L1, j, e1, ha, hc⟩ := hs
  obtain ⟨a1, a2⟩ := ap_wal fuse
  rw [a1, a2] at hc
  rcases ha with ⟨h1, _⟩ | ⟨_, h1, _⟩ | ⟨_, _, h1, rfl, rfl, rfl⟩ | ⟨_, _, h1, hj, he, f, v, hL⟩
  · cases h1
  · rw [name_wal] at h1; cases h1
  · rcases op_two (fuse := fuse) with ⟨k1, _⟩ | ⟨k1, k2⟩
    · exact absurd k1 h1
    · rcases hc with ⟨k3, _⟩ | ⟨k3, _⟩ | ⟨_, _, rfl, rfl, rfl, rfl⟩
      · omega
      · omega
      · refine ⟨hfu.op, .inr (.inr ⟨k1, k2, e.f, e.v, 0, ?_⟩)⟩
        rw [heta e hn]
        simp [hsyn]
  · rcases op_two (fuse := fuse) with ⟨k1, k2⟩ | ⟨k1, k2⟩
    rotate_left
    · omega
    rw [k2] at hc
    have hL1 : L1 = [⟨nWal, e.f, v, e.bs ++ xs.take j, e.syn⟩] := by
      rw [hL]
      unfold addE
      rw [look_w hn]
      simp [setF, hn]
    have hjx : j ≤ xs.length := by rw [hj]; unfold appN; omega
    generalize hE : (⟨nWal, e.f, v, e.bs ++ xs.take j, e.syn⟩ : Ent) = E1 at hL1
    have hE1 : E1.name = nWal := by rw [← hE]
    have hEb : E1.bs = e.bs ++ xs.take j := by rw [← hE]
    have hEs : E1.syn = e.bs.length := by rw [← hE]; exact hsyn
    subst hL1
    rcases hc with ⟨k3, k4, rfl, rfl, rfl, rfl⟩ | ⟨k3, rfl, rfl, rfl, rfl⟩ | ⟨k3, k4, rfl, rfl, rfl, rfl⟩
    · obtain ⟨c1, c2, c3, c4⟩ := cut_w hE1 (opF fuse) e.bs.length (by rw [hEb]; simp)
      rw [c1, c2, c3, c4]
      refine ⟨hfu.op.op, ?_⟩
      rcases op_two (fuse := opF fuse) with ⟨m1, m2⟩ | ⟨m1, m2⟩
      · refine .inr (.inl ⟨by rw [if_pos m1], m2, E1.f, cutV E1.v e.bs.length, ?_⟩)
        rw [if_pos m1, hEb, hEs, List.take_left]
        simp
      · refine .inr (.inr ⟨by rw [if_neg (by omega)]; exact m1, m2, E1.f, E1.v, j, ?_⟩)
        rw [if_neg (by omega)]
        conv => lhs; rw [heta E1 hE1]
        rw [hEb, hEs]
    · have hjl : j = xs.length := by
        rw [he] at k3
        by_cases h9 : j < xs.length
        · rw [if_pos h9] at k3; cases k3
        · omega
      obtain ⟨c1, c2, c3⟩ := ch_some (look_w hE1 []) (opF fuse)
      rw [c1, c2, c3]
      refine ⟨hfu.op.op, ?_⟩
      rcases op_two (fuse := opF fuse) with ⟨m1, m2⟩ | ⟨m1, m2⟩
      · refine .inl ⟨m1, m2, E1.f, E1.v, ?_⟩
        rw [sync_w hE1 _ m1, hEb, hjl, List.take_length]
      · refine .inr (.inr ⟨m1, m2, E1.f, E1.v, j, ?_⟩)
        rw [sync_w8 hE1 _ m1]
        conv => lhs; rw [heta E1 hE1]
        rw [hEb, hEs]
    · have hj0 : er = 7 := by
        by_cases h9 : j < xs.length
        · rw [he, if_pos h9]
        · rw [he, if_neg h9] at k3; exact absurd rfl k3
      have hjz := k4 hj0
      refine ⟨hfu.op, .inr (.inl ⟨hj0, rfl, E1.f, E1.v, ?_⟩)⟩
      conv => lhs; rw [heta E1 hE1]
      rw [hEb, hEs, hjz]
      simp
theorem new_in {L : List Ent} (hL : L = [] ∨ ∃ e : Ent, L = [e] ∧ e.name = nWal) {n : Ent} (hn : n.name = nNew) : look (L ++ [n]) nNew = some n ∧ dropE (L ++ [n]) nNew = L ∧ (∀ syn, setF (L ++ [n]) nNew n.v n.bs syn = L ++ [⟨nNew, n.f, n.v, n.bs, syn⟩]) ∧ dropE (dropE (L ++ [n]) nNew) nWal = [] := by
  rcases hL with rfl | ⟨x, rfl, hx⟩
  · refine ⟨by simp [look, hn], by simp [dropE, hn], fun syn => by simp [setF, hn], by simp [dropE, hn]⟩
  · refine ⟨by simp [look, hn, hx, ne_data], by simp [dropE, hn, hx, ne_data], fun syn => by simp [setF, hn, hx, ne_data], by simp [dropE, hn, hx, ne_data]⟩
theorem add_new {L : List Ent} (hL : L = [] ∨ ∃ e : Ent, L = [e] ∧ e.name = nWal) (f : Nat) (v : Value) (ys : List Value) : addE L nNew f v ys = L ++ [⟨nNew, f, v, ys, 0⟩] := by
  rcases hL with rfl | ⟨x, rfl, hx⟩
  · rfl
  · have : look [x] nNew = none := by simp [look, hx, ne_data]
    unfold addE
    rw [this]
    simp [insE, hx, before_names]
theorem anew_law {L : List Ent} (hL : L = [] ∨ ∃ e : Ent, L = [e] ∧ e.name = nWal) {room fuse : Int} {xs : List Value} {L' : List Ent} {fuse' er : Int} {down' : Bool} (hfu : FuseOk fuse) (hs : AnewSays L room fuse false xs L' fuse' down' er) :
    FuseOk fuse' ∧ ((er = 0 ∧ down' = false ∧ ∃ f v, L' = [⟨nWal, f, v, xs, xs.length⟩]) ∨
    (er = 7 ∧ down' = false ∧ L' = L) ∨
    (er = 8 ∧ down' = true ∧ (L' = L ∨ ∃ n : Ent, n.name = nNew ∧ ((∃ j, n.bs = xs.take j) ∧ 0 ≤ n.syn ∧ n.syn ≤ n.bs.length) ∧ L' = L ++ [n]))) := by
  obtain ⟨L1, j, e1, ha, hc⟩ := hs
  obtain ⟨a1, a2⟩ := ap_new fuse
  rw [a1, a2] at hc
  rcases ha with ⟨h1, _⟩ | ⟨_, h1, _⟩ | ⟨_, _, h1, rfl, rfl, rfl⟩ | ⟨_, _, h1, hj, he, f, v, hLa⟩
  · cases h1
  · rw [name_new] at h1; cases h1
  · rcases op_two (fuse := fuse) with ⟨k1, _⟩ | ⟨k1, k2⟩
    · exact absurd k1 h1
    · rcases hc with ⟨k3, _⟩ | ⟨k3, _⟩ | ⟨k3, _⟩ | ⟨_, _, rfl, rfl, rfl, rfl⟩
      · omega
      · omega
      · omega
      · exact ⟨hfu.op, .inr (.inr ⟨k1, k2, .inl rfl⟩)⟩
  · rcases op_two (fuse := fuse) with ⟨k1, k2⟩ | ⟨k1, k2⟩
    rotate_left
    · omega
    rw [k2] at hc
    rw [add_new hL] at hLa
    have hjx : j ≤ xs.length := by rw [hj]; unfold appN; omega
    obtain ⟨g1, g2, g3, g4⟩ := new_in hL (n := ⟨nNew, f, v, xs.take j, 0⟩) rfl
    rw [← hLa] at g1 g2 g3 g4
    obtain ⟨c1, c2, c3⟩ := ch_some g1 (opF fuse)
    rw [c1, c2, c3] at hc
    rcases hc with ⟨k3, rfl, rfl, rfl, rfl⟩ | ⟨k3, k4, rfl, rfl, rfl, rfl⟩ | ⟨k3, k4, L2, f2, d2, hL2, rfl, rfl, hL', rfl, rfl, rfl⟩ | ⟨k3, k4, rfl, rfl, rfl, rfl⟩
    · refine ⟨hfu.op.op, ?_⟩
      rcases op_two (fuse := opF fuse) with ⟨m1, m2⟩ | ⟨m1, m2⟩
      · refine .inr (.inl ⟨by rw [if_pos m1], m2, ?_⟩)
        unfold remL
        rw [c1, if_pos m1, g2]
      · refine .inr (.inr ⟨by rw [if_neg (by omega)]; exact m1, m2, .inr ⟨⟨nNew, f, v, xs.take j, 0⟩, rfl, ⟨⟨j, rfl⟩, Int.le_refl _, Int.natCast_nonneg _⟩, ?_⟩⟩)
        unfold remL
        rw [c1, if_neg (by omega), hLa]
    · refine ⟨hfu.op.op, ?_⟩
      rcases op_two (fuse := opF fuse) with ⟨m1, m2⟩ | ⟨m1, m2⟩
      · exact absurd m1 k4
      · refine .inr (.inr ⟨m1, m2, .inr ⟨⟨nNew, f, v, xs.take j, 0⟩, rfl, ⟨⟨j, rfl⟩, Int.le_refl _, Int.natCast_nonneg _⟩, ?_⟩⟩)
        unfold syncL
        rw [c1, if_neg (by omega), hLa]
    · have hjl : j = xs.length := by
        rw [he] at k3
        by_cases h9 : j < xs.length
        · rw [if_pos h9] at k3; cases k3
        · omega
      have hL3 : L2 = L ++ [⟨nNew, f, v, xs, xs.length⟩] := by
        rw [hL2]
        unfold syncL
        rw [c1, if_pos k4, g1]
        show setF L1 nNew v (xs.take j) ((xs.take j).length : Nat) = _
        rw [g3]
        rw [hjl, List.take_length]
      obtain ⟨q1, q2, q3, q4⟩ := new_in hL (n := ⟨nNew, f, v, xs, xs.length⟩) rfl
      rw [← hL3] at q1 q2 q4
      rcases op_two (fuse := opF fuse) with ⟨m1, m2⟩ | ⟨m1, m2⟩
      rotate_left
      · omega
      rw [m2] at hL' ⊢
      have hg : getE L2 false nNew = (some ⟨nNew, f, v, xs, xs.length⟩, 0) := by unfold getE; rw [q1]; rfl
      have hrE : renE L2 (opF (opF fuse)) false nNew nWal = opE (opF (opF fuse)) := by unfold renE; rw [hg, if_pos rfl, if_pos name_wal]
      have hrF : renF L2 (opF (opF fuse)) false nNew nWal = opF (opF (opF fuse)) := by unfold renF; rw [hg, if_pos ⟨rfl, name_wal⟩]
      have hrD : renD L2 (opF (opF fuse)) false nNew nWal = opD (opF (opF fuse)) false := by unfold renD; rw [hg, if_pos ⟨rfl, name_wal⟩]
      rw [hrE, hrF, hrD]
      refine ⟨hfu.op.op.op, ?_⟩
      unfold renL at hL'
      rw [hrE] at hL'
      rcases op_two (fuse := opF (opF fuse)) with ⟨n1, n2⟩ | ⟨n1, n2⟩
      · rw [if_pos n1, q1] at hL'
        refine .inl ⟨n1, n2, f, v, ?_⟩
        rw [hL']
        show insE _ (dropE (dropE L2 nNew) nWal) = _
        rw [q4]; rfl
      · rw [if_neg (by omega)] at hL'
        exact .inr (.inr ⟨n1, n2, .inr ⟨⟨nNew, f, v, xs, xs.length⟩, rfl, ⟨⟨xs.length, (List.take_length).symm⟩, Int.natCast_nonneg _, Int.le_refl _⟩, by rw [hL', hL3]⟩⟩)
    · exfalso
      by_cases h9 : j < xs.length
      · rw [he, if_pos h9] at k4; exact k4 rfl
      · rw [he, if_neg h9] at k3; exact k3 rfl
end Go.Proofs.Ytjkgcpbgacdgaaa
/- The plain law of a crash: the log that lies on the disk, whole or torn; appended, trimmed, restarted, opened. No condition. -/
namespace Go.Proofs.Ytjkgcpbgacdgaaa
open Go.RowKit
def FL (F : Nat) (Y : List (List UInt8)) : List Value := contL F ((Y.map Lib.byteCells).map nilv)
/-- A file of bytes. -/
def GoodE (n : Ent) : Prop := (∃ l : List UInt8, n.bs = Lib.byteCells l) ∧ n.bs.length ≤ 100000000000 ∧ 0 ≤ n.syn ∧ n.syn ≤ n.bs.length
/-- The disk of a log that is whole. -/
def Clean (L : List Ent) (F : Nat) (Y : List (List UInt8)) (z : Nat) : Prop :=
  (L = [] ∧ F = 0 ∧ Y = [] ∧ z = 0) ∨ ∃ e : Ent, L = [e] ∧ e.name = nWal ∧ e.bs = FL F Y ∧ e.syn = e.bs.length ∧ z = (FL F Y).length
/-- The disk of a log whose last call was lost. -/
def Torn (L : List Ent) (F : Nat) (Y : List (List UInt8)) (MF : Nat) (MY : List (List UInt8)) : Prop :=
  (F = 0 ∧ Y = [] ∧ (L = [] ∨ ∃ n : Ent, n.name = nNew ∧ GoodE n ∧ L = [n])) ∨
  ∃ (e : Ent) (t : List Value), e.name = nWal ∧ e.bs = FL F Y ++ t ∧ (FL F Y).length ≤ e.syn ∧ e.syn ≤ e.bs.length ∧ (t = [] ∨ ∃ b j, t = (frameL (Lib.byteCells b)).take j ∧ MF = F ∧ MY = Y ++ [b] ∧ 1 ≤ b.length ∧ b.length ≤ 1048576) ∧ (L = [e] ∨ ∃ n : Ent, n.name = nNew ∧ GoodE n ∧ L = [e, n])
theorem FL_snoc (F : Nat) (Y : List (List UInt8)) (c : List UInt8) : FL F (Y ++ [c]) = FL F Y ++ frameL (Lib.byteCells c) := by
  unfold FL contL
  simp [nilv, List.append_assoc]
theorem FL_pos (F : Nat) (Y : List (List UInt8)) : 12 ≤ (FL F Y).length := by
  have := (contL_head F (Y.map Lib.byteCells) []).2.2.1
  rw [List.append_nil] at this
  exact this
theorem Clean.one {L : List Ent} {F : Nat} {Y : List (List UInt8)} {z : Nat} (h : Clean L F Y z) : L = [] ∨ ∃ e : Ent, L = [e] ∧ e.name = nWal := by
  rcases h with ⟨rfl, _⟩ | ⟨e, rfl, hn, _⟩
  · exact .inl rfl
  · exact .inr ⟨e, rfl, hn⟩
theorem Clean.torn {L L' : List Ent} {F : Nat} {Y : List (List UInt8)} {z : Nat} (h : Clean L F Y z) (MF : Nat) (MY : List (List UInt8)) (hL : L' = L ∨ ∃ n : Ent, n.name = nNew ∧ GoodE n ∧ L' = L ++ [n]) : Torn L' F Y MF MY := by
  rcases h with ⟨rfl, h1, h2, _⟩ | ⟨e, rfl, hn, hb, hs, _⟩
  · refine .inl ⟨h1, h2, ?_⟩
    rcases hL with h | ⟨n, hn, hg, h⟩
    · exact .inl h
    · exact .inr ⟨n, hn, hg, h⟩
  · refine .inr ⟨e, [], hn, by rw [hb]; simp, by rw [hs, hb]; exact Int.le_refl _, by rw [hs]; exact Int.le_refl _, .inl rfl, ?_⟩
    rcases hL with h | ⟨n, hn, hg, h⟩
    · exact .inl h
    · exact .inr ⟨n, hn, hg, h⟩
theorem number_bytes (n : Int) (size : Nat) : ∃ l : List UInt8, numL n size = Lib.byteCells l := by
  refine ⟨(List.range size).map fun j => UInt8.ofNat (n / 2 ^ (8 * ((size - 1 - j : Nat) : Int)).toNat % 256).toNat, ?_⟩
  unfold numL Lib.byteCells
  rw [List.map_map]
  refine List.map_congr_left fun j _ => ?_
  simp only [numV, Function.comp]
  rw [IntKind.wrap_u8']
  congr 1
  have h1 := Int.emod_nonneg (n / 2 ^ (8 * ((size - 1 - j : Nat) : Int)).toNat) (show (256 : Int) ≠ 0 by decide)
  have h2 := Int.emod_lt_of_pos (n / 2 ^ (8 * ((size - 1 - j : Nat) : Int)).toNat) (show (0 : Int) < 256 by decide)
  generalize n / 2 ^ (8 * ((size - 1 - j : Nat) : Int)).toNat % 256 = q at *
  have h3 : ((UInt8.ofNat q.toNat).toNat : Int) = q := by rw [UInt8.toNat_ofNat']; omega
  exact h3.symm
theorem frame_bytes (b : List UInt8) : ∃ l : List UInt8, frameL (Lib.byteCells b) = Lib.byteCells l := by
  obtain ⟨l, hl⟩ := number_bytes (Lib.byteCells b).length 4
  exact ⟨l ++ b, by unfold frameL; rw [hl]; simp [Lib.byteCells]⟩
theorem FL_bytes (F : Nat) (Y : List (List UInt8)) : ∃ l : List UInt8, FL F Y = Lib.byteCells l := by
  have h0 : ∃ l : List UInt8, FL F [] = Lib.byteCells l := by
    obtain ⟨l, hl⟩ := number_bytes F 8
    refine ⟨[119, 97, 108, 49] ++ l, ?_⟩
    unfold FL contL
    rw [hl, mark_bytes]
    simp [Lib.byteCells]
  generalize hn : Y.length = n
  induction n generalizing Y with
  | zero => rw [List.eq_nil_of_length_eq_zero hn]; exact h0
  | succ n ih =>
    obtain ⟨Z, c, rfl⟩ : ∃ Z c, Y = Z ++ [c] := ⟨Y.dropLast, Y.getLast (by intro e; rw [e] at hn; cases hn), (List.dropLast_concat_getLast _).symm⟩
    obtain ⟨l, hl⟩ := ih Z (by simpa using hn)
    obtain ⟨k, hk⟩ := frame_bytes c
    exact ⟨l ++ k, by rw [FL_snoc, hl, hk]; simp [Lib.byteCells]⟩
theorem bytes_part {xs : List Value} (h : ∃ l : List UInt8, xs = Lib.byteCells l) (j : Nat) : ∃ l : List UInt8, xs.take j = Lib.byteCells l := by
  obtain ⟨l, rfl⟩ := h
  exact ⟨l.take j, byteCells_take l j⟩
theorem draft_good {xs : List Value} (h : ∃ l : List UInt8, xs = Lib.byteCells l) (hl : xs.length ≤ 100000000000) {n : Ent} (hn : (∃ j, n.bs = xs.take j) ∧ 0 ≤ n.syn ∧ n.syn ≤ n.bs.length) : GoodE n := by
  obtain ⟨⟨j, hj⟩, h1, h2⟩ := hn
  refine ⟨by rw [hj]; exact bytes_part h j, by rw [hj, List.length_take]; omega, h1, h2⟩
theorem append_law {L L' : List Ent} {F z : Nat} {Y : List (List UInt8)} {c : List UInt8} {room fuse fuse' size' er : Int} {down' over' : Bool} {X' : List (List Value)} (h : Clean L F Y z) (hfu : FuseOk fuse) (hc9 : c.length ≤ 1048576 → (FL F [c]).length ≤ 100000000000)
    (hs : AppendSays L room fuse false F (Y.map Lib.byteCells) z false (Lib.byteCells c) L' fuse' down' X' size' over' er) :
    FuseOk fuse' ∧ (((c.length < 1 ∨ 1048576 < c.length) ∧ er = 1 ∧ L' = L ∧ fuse' = fuse ∧ down' = false ∧ X' = Y.map Lib.byteCells ∧ size' = z ∧ over' = false) ∨
    ((1 ≤ c.length ∧ c.length ≤ 1048576) ∧ ((er = 0 ∧ down' = false ∧ over' = false ∧ X' = (Y ++ [c]).map Lib.byteCells ∧ ∃ z' : Nat, size' = z' ∧ Clean L' F (Y ++ [c]) z') ∨
      (er = 7 ∧ down' = false ∧ over' = false ∧ X' = Y.map Lib.byteCells ∧ size' = z ∧ Clean L' F Y z) ∨
      (er = 8 ∧ down' = true ∧ over' = true ∧ X' = Y.map Lib.byteCells ∧ size' = z ∧ Torn L' F Y F (Y ++ [c]))))) := by
  have hcl := Lib.byteCells_length c
  rcases hs with ⟨h1, _⟩ | ⟨_, h1, h2, h3, h4, h5, h6, h7, h8⟩ | ⟨_, h1, h2, h3, h4, h5⟩
  · cases h1
  · rw [hcl] at h1
    exact ⟨by rw [h4]; exact hfu, .inl ⟨by omega, h2, h3, h4, h5, h6, h7, h8⟩⟩
  · rw [hcl] at h1 h2
    have hXe : Y.map Lib.byteCells ++ [Lib.byteCells c] = (Y ++ [c]).map Lib.byteCells := by simp
    rw [hXe] at h4
    rcases h5 with ⟨k1, k2, k3⟩ | ⟨k1, k2, k3⟩
    · have hC : contL (F : Int) [((Value.slice none 0 0, Lib.byteCells c) : Value × List Value)] = FL F [c] := rfl
      rw [hC] at k2 k3
      rcases h with ⟨rfl, rfl, rfl, rfl⟩ | ⟨e, rfl, hn, hb, hsy, hz⟩
      rotate_left
      · have := FL_pos F Y; omega
      obtain ⟨g1, g2⟩ := anew_law (.inl rfl) hfu k3
      refine ⟨g1, .inr ⟨⟨by omega, h2⟩, ?_⟩⟩
      rcases g2 with ⟨rfl, rfl, f, v, rfl⟩ | ⟨rfl, rfl, rfl⟩ | ⟨rfl, rfl, hL'⟩
      · exact .inl ⟨rfl, rfl, h3, h4, _, k2, .inr ⟨_, rfl, rfl, rfl, rfl, rfl⟩⟩
      · exact .inr (.inl ⟨rfl, rfl, h3, h4, k2, .inl ⟨rfl, rfl, rfl, rfl⟩⟩)
      · exact .inr (.inr ⟨rfl, rfl, h3, h4, k2, (show Clean [] 0 [] 0 from .inl ⟨rfl, rfl, rfl, rfl⟩).torn _ _ (hL'.imp_right fun ⟨n, k1, k2, k3⟩ => ⟨n, k1, draft_good (FL_bytes _ _) (hc9 h2) k2, k3⟩)⟩)
    · rcases h with ⟨_, _, _, rfl⟩ | ⟨e, rfl, hn, hb, hsy, hz⟩
      · exact absurd rfl k1
      rw [← hb] at hz
      rw [hz] at k3
      obtain ⟨g1, g2⟩ := grow_law hn hsy hfu k3
      refine ⟨g1, .inr ⟨⟨by omega, h2⟩, ?_⟩⟩
      rcases g2 with ⟨rfl, rfl, f, v, rfl⟩ | ⟨rfl, rfl, f, v, rfl⟩ | ⟨rfl, rfl, f, v, j, rfl⟩
      · refine .inl ⟨rfl, rfl, h3, h4, z + (frameL (Lib.byteCells c)).length, by rw [k2]; rfl, .inr ⟨_, rfl, rfl, by rw [FL_snoc, ← hb], rfl, ?_⟩⟩
        rw [FL_snoc, List.length_append, ← hb, hz]
      · exact .inr (.inl ⟨rfl, rfl, h3, h4, k2, .inr ⟨_, rfl, rfl, hb, rfl, by rw [hz, hb]⟩⟩)
      · refine .inr (.inr ⟨rfl, rfl, h3, h4, k2, .inr ⟨_, (frameL (Lib.byteCells c)).take j, rfl, by rw [← hb], by rw [← hb]; exact Int.le_refl _, by simp; omega, .inr ⟨c, j, rfl, rfl, rfl, by omega, h2⟩, .inl rfl⟩⟩)
theorem trim_law {L L' : List Ent} {F z : Nat} {Y : List (List UInt8)} {n room fuse fuse' size' first' er : Int} {down' over' : Bool} {X' : List (List Value)} (h : Clean L F Y z) (hfu : FuseOk fuse) (hc9 : ∀ k, k ≤ Y.length → (FL (F + k) (Y.drop k)).length ≤ 100000000000)
    (hs : TrimSays L room fuse false F (Y.map Lib.byteCells) z false n L' fuse' down' first' X' size' over' er) :
    FuseOk fuse' ∧ (((n < F ∨ (F : Int) + Y.length < n) ∧ er = 3 ∧ L' = L ∧ fuse' = fuse ∧ down' = false ∧ first' = F ∧ X' = Y.map Lib.byteCells ∧ size' = z ∧ over' = false) ∨
    ∃ k : Nat, k ≤ Y.length ∧ n = F + k ∧ ((er = 0 ∧ down' = false ∧ over' = false ∧ first' = ((F + k : Nat) : Int) ∧ X' = (Y.drop k).map Lib.byteCells ∧ ∃ z' : Nat, size' = z' ∧ Clean L' (F + k) (Y.drop k) z') ∨
      (er = 7 ∧ down' = false ∧ over' = false ∧ first' = F ∧ X' = Y.map Lib.byteCells ∧ size' = z ∧ Clean L' F Y z) ∨
      (er = 8 ∧ down' = true ∧ over' = true ∧ first' = F ∧ X' = Y.map Lib.byteCells ∧ size' = z ∧ Torn L' F Y (F + k) (Y.drop k)))) := by
  rcases hs with ⟨h1, _⟩ | ⟨_, h1, h2, h3, h4, h5, h6, h7, h8, h9⟩ | ⟨_, h1, h2, h3, h4, h5, h6, h7, h8, h9⟩ | ⟨_, k, h1, h2, h3, h4, h5, h6, h7, h8⟩
  · cases h1
  · rw [List.length_map] at h1
    exact ⟨by rw [h4]; exact hfu, .inl ⟨h1, h2, h3, h4, h5, h6, h7, h8, h9⟩⟩
  · exact ⟨by rw [h4]; exact hfu, .inr ⟨0, Nat.zero_le _, by omega, .inl ⟨h2, h5, h9, by rw [h6]; rfl, by rw [h7]; rfl, z, h8, by rw [h3]; exact h⟩⟩⟩
  · rw [List.length_map] at h3
    have hn : n = ((F + k : Nat) : Int) := by omega
    have hC : contL n (((Y.map Lib.byteCells).drop k).map fun x => (Value.slice none 0 0, x)) = FL (F + k) (Y.drop k) := by
      rw [hn, ← List.map_drop]; rfl
    rw [hC] at h7 h8
    obtain ⟨g1, g2⟩ := anew_law h.one hfu h8
    refine ⟨g1, .inr ⟨k, h3, by omega, ?_⟩⟩
    rcases g2 with ⟨rfl, rfl, f, v, rfl⟩ | ⟨rfl, rfl, rfl⟩ | ⟨rfl, rfl, hL'⟩
    · exact .inl ⟨rfl, rfl, h4, by rw [h5, if_pos rfl, hn], by rw [h6, if_pos rfl, List.map_drop], _, h7, .inr ⟨_, rfl, rfl, rfl, rfl, rfl⟩⟩
    · exact .inr (.inl ⟨rfl, rfl, h4, h5, h6, h7, h⟩)
    · exact .inr (.inr ⟨rfl, rfl, h4, h5, h6, h7, h.torn _ _ (hL'.imp_right fun ⟨n, k1, k2, k3⟩ => ⟨n, k1, draft_good (FL_bytes _ _) (hc9 k h3) k2, k3⟩)⟩)
end Go.Proofs.Ytjkgcpbgacdgaaa
/- The plain law of a crash: restarted, and opened. No condition. -/
namespace Go.Proofs.Ytjkgcpbgacdgaaa
open Go.RowKit
/-- A disk that Open can read: the log up to a torn end. -/
def Openable (L : List Ent) (F : Nat) (Y : List (List UInt8)) (t : List Value) (z : Nat) : Prop :=
  (F = 0 ∧ Y = [] ∧ t = [] ∧ z = 0 ∧ (L = [] ∨ ∃ n : Ent, n.name = nNew ∧ L = [n])) ∨
  ∃ e : Ent, e.name = nWal ∧ e.bs = FL F Y ++ t ∧ z = (FL F Y).length ∧ Stuck t ∧ (L = [e] ∨ ∃ n : Ent, n.name = nNew ∧ L = [e, n])
theorem stuck_nil : Stuck [] := .inl (by simp)
theorem stuck_frame {b : List UInt8} {j : Nat} (h1 : 1 ≤ b.length) (h2 : b.length ≤ 1048576) (hj : j < (frameL (Lib.byteCells b)).length) : Stuck ((frameL (Lib.byteCells b)).take j) := by
  have hl := Lib.byteCells_length b
  have hfl : (frameL (Lib.byteCells b)).length = 4 + b.length := by simp [frameL, numL_len, hl]
  by_cases h4 : j < 4
  · left
    rw [List.length_take]; omega
  · right
    refine ⟨b.length, (Lib.byteCells b).take (j - 4), ?_, h1, h2, by rw [List.length_take]; omega⟩
    unfold frameL
    rw [List.take_append, numL_len, List.take_of_length_le (by rw [numL_len]; omega), hl]
theorem Clean.openable {L : List Ent} {F z : Nat} {Y : List (List UInt8)} (h : Clean L F Y z) : Openable L F Y [] z := by
  rcases h with ⟨rfl, h1, h2, h3⟩ | ⟨e, rfl, hn, hb, _, hz⟩
  · exact .inl ⟨h1, h2, rfl, h3, .inl rfl⟩
  · exact .inr ⟨e, hn, by rw [hb]; simp, hz, stuck_nil, .inl rfl⟩
theorem rst_clean {L : List Ent} {F z : Nat} {Y : List (List UInt8)} (h : Clean L F Y z) (cs : List UInt8) : Clean (rst cs L) F Y z := by
  rcases h with ⟨rfl, h1, h2, h3⟩ | ⟨e, rfl, hn, hb, hs, hz⟩
  · exact .inl ⟨rfl, h1, h2, h3⟩
  · have hk : ∀ c, rstK e c = e.bs.length := fun c => by unfold rstK; rw [if_neg (by omega)]
    refine .inr ⟨rstOne e (cs.headD 0).toNat, rfl, hn, ?_, ?_, hz⟩
    · show e.bs.take (rstK e _) = _
      rw [hk, List.take_length, hb]
    · show ((rstK e _ : Nat) : Int) = ((e.bs.take (rstK e _)).length : Nat)
      rw [hk, List.take_length]
theorem rst_torn {L : List Ent} {F MF : Nat} {Y MY : List (List UInt8)} (h : Torn L F Y MF MY) (cs : List UInt8) : ∃ F' Y' t z, Openable (rst cs L) F' Y' t z ∧ ((F' = F ∧ Y' = Y) ∨ (F' = MF ∧ Y' = MY)) := by
  rcases h with ⟨h1, h2, h3⟩ | ⟨e, t, hn, hb, hs, hs1, ht, hL⟩
  · refine ⟨F, Y, [], 0, .inl ⟨h1, h2, rfl, rfl, ?_⟩, .inl ⟨rfl, rfl⟩⟩
    rcases h3 with rfl | ⟨n, hn, _, rfl⟩
    · exact .inl rfl
    · exact .inr ⟨rstOne n (cs.headD 0).toNat, hn, rfl⟩
  · have hs0 : 0 ≤ e.syn := by omega
    obtain ⟨k, hk⟩ : ∃ k, rstK e (cs.headD 0).toNat = k := ⟨_, rfl⟩
    have hkl : (FL F Y).length ≤ k := by
      rw [← hk]
      unfold rstK
      split
      · omega
      · rw [hb, List.length_append]; omega
    have hbk : (rstOne e (cs.headD 0).toNat).bs = FL F Y ++ t.take (k - (FL F Y).length) := by
      show e.bs.take (rstK e _) = _
      rw [hk, hb, List.take_append, List.take_of_length_le hkl]
    have hL' : rst cs L = [rstOne e (cs.headD 0).toNat] ∨ ∃ n : Ent, n.name = nNew ∧ rst cs L = [rstOne e (cs.headD 0).toNat, n] := by
      rcases hL with rfl | ⟨n, hn2, _, rfl⟩
      · exact .inl rfl
      · exact .inr ⟨rstOne n _, hn2, rfl⟩
    generalize hE : rstOne e (cs.headD 0).toNat = e' at hbk hL'
    have hn' : e'.name = nWal := by rw [← hE]; exact hn
    rcases ht with rfl | ⟨b, j, rfl, hMF, hMY, hb1, hb2⟩
    · exact ⟨F, Y, [], _, .inr ⟨e', hn', by rw [hbk]; simp, rfl, stuck_nil, hL'⟩, .inl ⟨rfl, rfl⟩⟩
    · rw [List.take_take] at hbk
      generalize min (k - (FL F Y).length) j = i at hbk
      by_cases hi : i < (frameL (Lib.byteCells b)).length
      · exact ⟨F, Y, _, _, .inr ⟨e', hn', hbk, rfl, stuck_frame hb1 hb2 hi, hL'⟩, .inl ⟨rfl, rfl⟩⟩
      · rw [List.take_of_length_le (by omega), ← FL_snoc] at hbk
        exact ⟨F, Y ++ [b], [], _, .inr ⟨e', hn', by rw [hbk]; simp, rfl, stuck_nil, hL'⟩, .inr ⟨hMF.symm, hMY.symm⟩⟩
theorem Clean.good {L : List Ent} {F z : Nat} {Y : List (List UInt8)} (h : Clean L F Y z) (hz : z ≤ 100000000000) : Good L := by
  rcases h with ⟨rfl, _⟩ | ⟨e, rfl, hn, hb, hs, hzz⟩
  · exact fun e he => nomatch he
  · intro x hx
    have hx' := List.mem_singleton.1 hx
    subst hx'
    obtain ⟨l, hl⟩ := FL_bytes F Y
    exact ⟨by rw [hn]; decide, ⟨l, by rw [hb, hl]⟩, by rw [hb, ← hzz]; omega, by rw [hs]; exact Int.natCast_nonneg _, by rw [hs]; exact Int.le_refl _⟩
theorem GoodE.good {n : Ent} (h : GoodE n) (hn : n.name = nNew) : n.name.size ≤ 64 ∧ (∃ l : List UInt8, n.bs = Lib.byteCells l) ∧ n.bs.length ≤ 140737488355328 ∧ 0 ≤ n.syn ∧ n.syn ≤ n.bs.length :=
  ⟨by rw [hn]; decide, h.1, by have := h.2.1; omega, h.2.2.1, h.2.2.2⟩
theorem Torn.good {L : List Ent} {F MF : Nat} {Y MY : List (List UInt8)} (h : Torn L F Y MF MY) (hz : (FL F Y).length ≤ 100000000000) : Good L := by
  rcases h with ⟨_, _, h3⟩ | ⟨e, t, hn, hb, hs, hs1, ht, hL⟩
  · rcases h3 with rfl | ⟨n, hn, hg, rfl⟩
    · exact fun e he => nomatch he
    · intro x hx
      have hx' := List.mem_singleton.1 hx
      subst hx'
      exact hg.good hn
  · obtain ⟨l, hl⟩ := FL_bytes F Y
    have ht2 : (∃ l : List UInt8, t = Lib.byteCells l) ∧ t.length ≤ 1048580 := by
      rcases ht with rfl | ⟨b, j, rfl, _, _, _, hb2⟩
      · exact ⟨⟨[], rfl⟩, by simp⟩
      · refine ⟨bytes_part (frame_bytes b) j, ?_⟩
        have hfl : (frameL (Lib.byteCells b)).length = 4 + b.length := by simp [frameL, numL_len, Lib.byteCells_length]
        rw [List.length_take]; omega
    obtain ⟨⟨l2, hl2⟩, ht3⟩ := ht2
    have hge : e.name.size ≤ 64 ∧ (∃ l : List UInt8, e.bs = Lib.byteCells l) ∧ e.bs.length ≤ 140737488355328 ∧ 0 ≤ e.syn ∧ e.syn ≤ e.bs.length :=
      ⟨by rw [hn]; decide, ⟨l ++ l2, by rw [hb, hl, hl2]; simp [Lib.byteCells]⟩, by rw [hb, List.length_append]; omega, by omega, hs1⟩
    rcases hL with rfl | ⟨n, hn2, hg, rfl⟩
    · intro x hx
      have hx' := List.mem_singleton.1 hx
      subst hx'
      exact hge
    · intro x hx
      rcases List.mem_cons.1 hx with rfl | hx
      · exact hge
      · have hx' := List.mem_singleton.1 hx
        subst hx'
        exact hg.good hn2
theorem look_n {n : Ent} (h : n.name = nNew) : look [n] nWal = none := by
  have h1 : ¬ nNew.data = nWal.data := fun e => ne_data e.symm
  simp [look, h, h1]
theorem Openable.found {L : List Ent} {F z : Nat} {Y : List (List UInt8)} {t : List Value} (h : Openable L F Y t z) : Found L F (Y.map Lib.byteCells) t z := by
  rcases h with ⟨h1, rfl, h3, h4, hL⟩ | ⟨e, hn, hb, hz, _, hL⟩
  · refine .inl ⟨?_, h1, rfl, h3, h4⟩
    rcases hL with rfl | ⟨n, hn, rfl⟩
    · rfl
    · exact look_n hn
  · refine .inr ⟨e, ?_, hb, hz⟩
    rcases hL with rfl | ⟨n, _, rfl⟩
    · exact look_w hn _
    · exact look_w hn _
theorem Openable.stuck {L : List Ent} {F z : Nat} {Y : List (List UInt8)} {t : List Value} (h : Openable L F Y t z) : Stuck t := by
  rcases h with ⟨_, _, rfl, _⟩ | ⟨_, _, _, _, h, _⟩
  · exact stuck_nil
  · exact h
/-- What Remove of the draft leaves. -/
theorem draft_gone {L : List Ent} {L0 : List Ent} (hL0 : L0 = [] ∨ ∃ e : Ent, L0 = [e] ∧ e.name = nWal) (hL : L = L0 ∨ ∃ n : Ent, n.name = nNew ∧ L = L0 ++ [n]) : (chE L (-1) false nNew = 0 ∨ chE L (-1) false nNew = 6) ∧ chF L (-1) false nNew = -1 ∧ chD L (-1) false nNew = false ∧ remL L (-1) false nNew = L0 := by
  rcases hL with rfl | ⟨n, hn, rfl⟩
  · have hk : look L nNew = none := by
      rcases hL0 with rfl | ⟨e, rfl, he⟩
      · rfl
      · simp [look, he, ne_data]
    obtain ⟨c1, c2, c3⟩ := ch_none hk (-1)
    exact ⟨.inr c1, c2, c3, by unfold remL; rw [c1, if_neg (by omega)]⟩
  · obtain ⟨g1, g2, _⟩ := new_in hL0 hn
    obtain ⟨c1, c2, c3⟩ := ch_some g1 (-1)
    exact ⟨.inl c1, c2, c3, by unfold remL; rw [c1]; exact g2⟩
theorem open_torn {L L' : List Ent} {F z : Nat} {Y : List (List UInt8)} {t : List Value} {fuse' er : Int} {down' : Bool} (h : Openable L F Y t z) (hs : OpenSays L (-1) t z L' fuse' down' er) : er = 0 ∧ fuse' = -1 ∧ down' = false ∧ Clean L' F Y z := by
  rcases h with ⟨rfl, rfl, rfl, rfl, hL⟩ | ⟨e, hn, hb, hz, hst, hL⟩
  · obtain ⟨g1, g2, g3, g4⟩ := draft_gone (L := L) (.inl rfl) hL
    have hlk : look L nWal = none := by
      rcases hL with rfl | ⟨n, hn, rfl⟩
      · rfl
      · exact look_n hn
    rcases hs with ⟨h1, h2, _⟩ | ⟨_, _, h3, h4, h5, h6⟩ | ⟨_, h2, _⟩
    · rcases g1 with g1 | g1
      · exact absurd g1 h1
      · exact absurd g1 h2
    · exact ⟨h3, by rw [h5, g2], by rw [h6, g3], .inl ⟨by rw [h4, g4], rfl, rfl, rfl⟩⟩
    · exact absurd hlk h2
  · obtain ⟨g1, g2, g3, g4⟩ := draft_gone (L := L) (L0 := [e]) (.inr ⟨e, rfl, hn⟩) hL
    have hlk : look L nWal ≠ none := by
      rcases hL with rfl | ⟨n, _, rfl⟩
      · rw [look_w hn]; exact fun e => nomatch e
      · rw [look_w hn]; exact fun e => nomatch e
    have o0 : opE (-1) = 0 := by decide
    have o1 : opF (-1) = -1 := by decide
    have o2 : opD (-1) false = false := by decide
    have fin : ∀ e2 : Ent, e2.name = nWal → e2.bs = FL F Y → chE [e2] (-1) false nWal = 0 ∧ chF [e2] (-1) false nWal = -1 ∧ chD [e2] (-1) false nWal = false ∧ Clean (syncL [e2] (-1) false nWal) F Y z := fun e2 hn2 hb2 => by
      obtain ⟨c1, c2, c3⟩ := ch_some (look_w hn2 []) (-1)
      rw [c1, c2, c3, sync_w hn2 _ o0]
      exact ⟨o0, o1, o2, .inr ⟨_, rfl, rfl, hb2, rfl, hz⟩⟩
    rcases hs with ⟨h1, h2, _⟩ | ⟨_, h2, _⟩ | ⟨_, _, L2, f2, d2, c2, hA, hB⟩
    · rcases g1 with g1 | g1
      · exact absurd g1 h1
      · exact absurd g1 h2
    · exact absurd h2 hlk
    · rw [g2, g3, g4] at hA
      rcases hA with ⟨rfl, rfl, rfl, rfl, rfl⟩ | ⟨ht, rfl, rfl, rfl, rfl⟩
      · obtain ⟨k1, k2, k3, k4⟩ := fin e hn (by rw [hb]; simp)
        rcases hB with ⟨h1, _⟩ | ⟨_, rfl, rfl, rfl, rfl⟩
        · exact absurd rfl h1
        · exact ⟨k1, k2, k3, k4⟩
      · obtain ⟨c1, c2, c3, c4⟩ := cut_w hn (-1) z (by rw [hb, hz]; simp)
        rw [o0, if_pos rfl] at c4
        rw [c1, c2, c3, c4, o0, o1, o2] at hB
        obtain ⟨k1, k2, k3, k4⟩ := fin ⟨nWal, e.f, cutV e.v z, e.bs.take z, min e.syn z⟩ rfl (by show e.bs.take z = _; rw [hb, hz, List.take_left])
        rcases hB with ⟨h1, _⟩ | ⟨_, rfl, rfl, rfl, rfl⟩
        · exact absurd rfl h1
        · exact ⟨k1, k2, k3, k4⟩
theorem open_clean {L L' : List Ent} {F z : Nat} {Y : List (List UInt8)} {fuse fuse' er : Int} {down' : Bool} (h : Clean L F Y z) (hfu : FuseOk fuse) (hs : OpenSays L fuse [] z L' fuse' down' er) : FuseOk fuse' ∧ ((er = 0 ∧ down' = false) ∨ (er = 8 ∧ down' = true)) ∧ Clean L' F Y z := by
  have hk : look L nNew = none := by
    rcases h.one with rfl | ⟨e, rfl, he⟩
    · rfl
    · simp [look, he, ne_data]
  obtain ⟨c1, c2, c3⟩ := ch_none hk fuse
  have hr : remL L fuse false nNew = L := by unfold remL; rw [c1, if_neg (by omega)]
  rcases hs with ⟨_, h2, _⟩ | ⟨_, _, h3, h4, h5, h6⟩ | ⟨_, h2, L2, f2, d2, k2, hA, hB⟩
  · exact absurd c1 h2
  · exact ⟨by rw [h5, c2]; exact hfu, .inl ⟨h3, by rw [h6, c3]⟩, by rw [h4, hr]; exact h⟩
  · rcases hA with ⟨_, rfl, rfl, rfl, rfl⟩ | ⟨ht, _⟩
    rotate_left
    · exact absurd rfl ht
    rw [c2, c3, hr] at hB
    rcases hB with ⟨h1, _⟩ | ⟨_, rfl, rfl, rfl, rfl⟩
    · exact absurd rfl h1
    · rcases h with ⟨rfl, _⟩ | ⟨e, rfl, hn, hb, hsy, hz⟩
      · exact absurd rfl h2
      · obtain ⟨m1, m2, m3⟩ := ch_some (look_w hn []) fuse
        rw [m1, m2, m3]
        refine ⟨hfu.op, ?_⟩
        rcases op_two (fuse := fuse) with ⟨n1, n2⟩ | ⟨n1, n2⟩
        · exact ⟨.inl ⟨n1, n2⟩, by rw [sync_w hn _ n1]; exact .inr ⟨_, rfl, rfl, hb, rfl, hz⟩⟩
        · exact ⟨.inr ⟨n1, n2⟩, by rw [sync_w8 hn _ n1]; exact .inr ⟨_, rfl, hn, hb, hsy, hz⟩⟩
end Go.Proofs.Ytjkgcpbgacdgaaa
