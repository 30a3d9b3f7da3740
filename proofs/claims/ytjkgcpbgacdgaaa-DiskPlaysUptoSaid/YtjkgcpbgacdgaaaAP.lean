/- The document's disk goes on: what is left of each file. Conditions: its files' bytes and marks are in their bounds. -/
import Derived.Test.YtjkgcpbgacdgaaaAO
namespace Go.Proofs.Ytjkgcpbgacdgaaa
open Go.RowKit Go.Sort
def rK (x : RFile) (c : Nat) : Nat := if x.syn < x.bs.length then x.syn.toNat + c % (x.bs.length - x.syn.toNat + 1) else x.bs.length
def rOne (x : RFile) (c : Nat) : RFile := ⟨x.name, rstV x.v (rK x c), x.bs.take (rK x c), (rK x c : Nat)⟩
def rRst : List UInt8 → List RFile → List RFile
  | _, [] => []
  | cs, x :: r => rOne x (cs.headD 0).toNat :: rRst (if x.syn < x.bs.length then cs.drop 1 else cs) r
theorem like_rst : ∀ {L : List Ent} {R : List RFile} (cs : List UInt8), Like L R → Like (rst cs L) (rRst cs R)
  | [], [], _, _ => rfl
  | [], _ :: _, _, h => by simp [Like] at h
  | _ :: _, [], _, h => by simp [Like] at h
  | e :: L, x :: R, cs, h => by
    unfold Like at h
    simp only [List.map_cons, List.cons.injEq] at h
    obtain ⟨h1, h2⟩ := h
    have hb : e.bs = x.bs := congrArg (fun p : PF => p.bs) h1
    have hs : e.syn = x.syn := congrArg (fun p : PF => p.syn) h1
    have hn : e.name = x.name := congrArg (fun p : PF => p.name) h1
    have ih := like_rst (if x.syn < x.bs.length then cs.drop 1 else cs) (show Like L R from h2)
    have hk : rstK e (cs.headD 0).toNat = rK x (cs.headD 0).toNat := by simp only [rstK, rK, hb, hs]
    unfold Like at ih ⊢
    simp only [rst, rRst, List.map_cons, List.cons.injEq]
    refine ⟨?_, ?_⟩
    · simp only [pE, pR, rstOne, rOne, hk, hb, hn]
    · rw [hb, hs]; exact ih
def GoodR (R : List RFile) : Prop := ∀ x ∈ R, x.bs.length ≤ 140737488355328 ∧ 0 ≤ x.syn ∧ x.syn ≤ x.bs.length
theorem goodR_of {L : List Ent} {R : List RFile} (h : Like L R) (hG : Good L) : GoodR R := fun x hx => by
  have h1 : pR x ∈ L.map pE := by rw [h]; exact List.mem_map_of_mem hx
  obtain ⟨e, he, hp⟩ := List.mem_map.1 h1
  have hb : e.bs = x.bs := congrArg (fun p : PF => p.bs) hp
  have hs : e.syn = x.syn := congrArg (fun p : PF => p.syn) hp
  obtain ⟨_, _, g1, g2, g3⟩ := hG e he
  rw [← hb, ← hs]
  exact ⟨g1, g2, g3⟩
def InRR (cs0 : List UInt8) (R : List RFile) (T : Nat → Prop) (r : Nat) (room fuse : Int) (down : Bool) (w0 : World) (u i : Value) (wr : World) : Prop :=
  ∃ (A B : List RFile) (j : Nat), u = .int .i64 (j : Nat) ∧ i = .int .i64 (A.length : Nat) ∧ j ≤ A.length ∧ rRst cs0 R = A ++ rRst (cs0.drop j) B ∧ R.length = A.length + B.length ∧ GoodR B ∧ Caps (A ++ B) ∧ RefAt wr T r (A ++ B) room fuse down ∧ Turns T w0 wr
theorem rK_le {x : RFile} (c : Nat) (h0 : 0 ≤ x.syn) (_h1 : x.syn ≤ x.bs.length) : rK x c ≤ x.bs.length := by
  unfold rK
  split
  · have := Nat.mod_lt c (show 0 < x.bs.length - x.syn.toNat + 1 by omega)
    omega
  · exact Nat.le_refl _
theorem InRR.step {cs0 : List UInt8} {R : List RFile} {T : Nat → Prop} {r : Nat} {room fuse : Int} {down : Bool} {w0 w' : World} {A B : List RFile} {x : RFile} {j : Nat} (hj : j ≤ A.length) (hr : rRst cs0 R = A ++ rRst (cs0.drop j) (x :: B)) (hlen : R.length = A.length + (x :: B).length)
    (hG : GoodR (x :: B)) (hc : Caps (A ++ x :: B)) (hx : ∃ a c, x.v = .slice a x.bs.length c) (K : Nat) (hK : K = rK x ((cs0.drop j).headD 0).toNat) (j' : Nat) (hj' : j' = if x.syn < x.bs.length then j + 1 else j)
    (href : RefAt w' T r ((A ++ x :: B).set A.length ⟨x.name, rstV x.v K, x.bs.take K, (K : Nat)⟩) room fuse down) (ht : Turns T w0 w') :
    InRR cs0 R T r room fuse down w0 (.int .i64 (j' : Nat)) (.int .i64 (((A.length : Nat) : Int) + 1)) w' := by
  obtain ⟨g1, g2, g3⟩ := hG x (by simp)
  have e1 : (A ++ x :: B).set A.length ⟨x.name, rstV x.v K, x.bs.take K, (K : Nat)⟩ = (A ++ [rOne x ((cs0.drop j).headD 0).toNat]) ++ B := by
    rw [List.set_append_right _ _ (Nat.le_refl _), hK]
    simp [rOne]
  rw [e1] at href
  refine ⟨A ++ [rOne x ((cs0.drop j).headD 0).toNat], B, j', rfl, by simp, ?_, ?_, ?_, fun y hy => hG y (by simp [hy]), ?_, href, ht⟩
  · rw [hj', List.length_append]; simp only [List.length_cons, List.length_nil]; split <;> omega
  · rw [hr, rRst, hj']
    by_cases hl : x.syn < x.bs.length
    · simp [hl, List.drop_drop]
    · simp [hl]
  · rw [hlen, List.length_append]; simp only [List.length_cons, List.length_nil]; omega
  · intro y hy
    simp only [List.append_assoc, List.mem_append, List.mem_cons, List.not_mem_nil, or_false] at hy
    rcases hy with hy | rfl | hy
    · exact hc y (by simp [hy])
    · obtain ⟨a, c, hv⟩ := hx
      have h1 := hc x (by simp)
      show capOk (rstV x.v (rK x ((cs0.drop j).headD 0).toNat))
      rw [hv] at h1 ⊢
      exact Nat.le_trans (rK_le _ g2 g3) h1
    · exact hc y (by simp [hy])
/-- A file's bytes are cut in its entry. -/
theorem rst_put {wr : World} {T : Nat → Prop} {r : Nat} {R0 : List RFile} {room fuse : Int} {down : Bool} {k g cap N vc : Nat} {x : RFile} {va : Option Addr} (hd : RefAt wr T r R0 room fuse down) (hx : R0[k]? = some x) (hc : wr.cell? ⟨r, 0, none⟩ = some (.slice (some ⟨g, 0, none⟩) R0.length cap))
    (hv : x.v = .slice va x.bs.length vc) (hN : x.bs.length = N) (m : Nat) (hm : m ≤ N) (nq : Nat) :
    ∃ w2, (wr.drewN nq).setCell ⟨g, k * 3 + 1, none⟩ (.slice va m vc) = w2 ∧ RefAt w2 T r (R0.set k ⟨x.name, .slice va m vc, x.bs.take m, x.syn⟩) room fuse down ∧ Turns T wr w2 ∧ w2.cell? ⟨r, 0, none⟩ = some (.slice (some ⟨g, 0, none⟩) R0.length cap) ∧
      w2.cell? ⟨g, k * 3 + 1, none⟩ = some (.slice va m vc) ∧ w2.cell? ⟨g, k * 3 + 2, none⟩ = some (.int .i64 x.syn) ∧ w2.frozen? ⟨g, k * 3 + 2, none⟩ = false := by
  refine ⟨_, rfl, ?_⟩
  subst hN
  obtain ⟨hTg, hgr, hgl, _, hgs⟩ := hd.row_block hc
  have hd' : RefAt (wr.drewN nq) T r R0 room fuse down := hd.same2 (Nat.le_refl _) fun _ _ _ => rfl
  have hxb := hd'.bytes x (List.mem_of_getElem? hx)
  have hshort : BytesOf (wr.drewN nq) T r ⟨x.name, .slice va m vc, x.bs.take m, x.syn⟩ := by
    refine ⟨Src.short (n := x.bs.length) (by have h8 := hxb.1; rw [hv] at h8; exact h8) hm, fun b hb' => hxb.2 b (by rw [hv]; cases va <;> exact hb')⟩
  have hne : (Value.slice va m vc).ownBlock ≠ some g := fun h => hgs x (List.mem_of_getElem? hx) (by rw [hv]; cases va <;> exact h)
  have o := onlyD_set (wr.drewN nq) g (k * 3 + 1) (.slice va m vc)
  have hkl : k < R0.length := (List.getElem?_eq_some_iff.1 hx).1
  obtain ⟨fv, fz, hb, _, hrow, _⟩ := hd.blk
  have hfv : fv = .slice (some ⟨g, 0, none⟩) R0.length cap := by
    simp only [World.cell?, hb] at hc
    simpa using hc
  subst hfv
  have e1 := (hrow.cellAt (k * 3 + 1) (by omega)).trans (refCells_at _ _ _ hx).2.1
  have e2 := (hrow.cellAt (k * 3 + 2) (by omega)).trans (refCells_at _ _ _ hx).2.2
  have hz : ∀ i, wr.frozen? ⟨g, i, none⟩ = false := fun i => by
    rcases hrow.2 with ⟨h1, _⟩ | ⟨g', cap', cur, hv', _, hg, _⟩
    · cases h1
    · cases hv'
      simp [World.frozen?, hg]
  obtain ⟨cur, hcur⟩ : ∃ cur, wr.heap[g]? = some (.cells cur 106 (0, 0)) := by
    rcases hrow.2 with ⟨h1, _⟩ | ⟨g', cap', cur, hv', _, hg, _⟩
    · cases h1
    · cases hv'
      exact ⟨cur, hg⟩
  have hs := heap_setCell_same (wr.drewN nq) g (k * 3 + 1) cur 106 (.slice va m vc) hcur
  have hcs : k * 3 + 1 < cur.size := by
    simp [World.cell?, hcur] at e1
    exact (Array.getElem?_eq_some_iff.1 e1).1
  refine ⟨hd'.putV hx hc _ _ hshort hne, (show Turns T wr (wr.drewN nq) from ⟨rfl, rfl, rfl, Nat.le_refl _, fun _ _ _ => rfl⟩).trans (o.turns (S := T) hTg) (fun _ h => .inl h), ?_, ?_, ?_, ?_⟩
  · exact (World.cell?_of_block (a := ⟨r, 0, none⟩) (o.2.2.2.2 r (fun e => hgr e.symm))).trans hc
  · rw [Lib.cell_of_heap hs]
    simp [hcs]
  · rw [Lib.cell_of_heap hs]
    have : (cur.setIfInBounds (k * 3 + 1) (.slice va m vc))[k * 3 + 2]? = cur[k * 3 + 2]? := by
      rw [Array.getElem?_setIfInBounds]
      rw [if_neg (by omega)]
    rw [this, ← e2, Lib.cell_of_heap hcur]
  · simp [World.frozen?, hs]
set_option maxRecDepth 100000 in
set_option maxHeartbeats 1000000 in
theorem refRestart (w : World) (T : Nat → Prop) (r : Nat) (R : List RFile) (room fuse : Int) (down : Bool) (src : Value) (cs : List UInt8) (h : RefAt w T r R room fuse down) (hG : GoodR R) (hcap : Caps R) (hn : R.length ≤ 1000000000000) (hsrc : SrcAt w T src (Lib.byteCells cs)) :
    Calls Try.prog 57 #[.pointer (some ⟨r, 0, none⟩), src] w fun e w' => e = .returned (.tuple #[]) ∧ Turns T w w' ∧ RefAt w' T r (rRst cs R) room (-1) false ∧ Caps (rRst cs R) := by
  obtain ⟨fv, fz, hb, _, hrow, _⟩ := h.blk
  obtain ⟨a, cap, rfl⟩ : ∃ a cap, fv = .slice a R.length cap := by
    rcases hrow.2 with ⟨rfl, h0⟩ | ⟨g, cap, cur, rfl, _⟩
    · exact ⟨none, 0, by rw [h0]⟩
    · exact ⟨_, cap, rfl⟩
  have c0 : w.cell? ⟨r, 0, none⟩ = some (.slice a R.length cap) := by simp [World.cell?, hb]
  obtain ⟨sa, sc, rfl, hsc⟩ := hsrc.form
  have HH := Lib.hid h
  have HG := Lib.hid hG
  have HCAP := Lib.hid hcap
  have HSRC := Lib.hid hsrc
  obtain ⟨n, hN⟩ : ∃ n, R.length = n := ⟨_, rfl⟩
  have HN := Lib.hid hN
  rw [hN] at c0 hn
  obtain ⟨sn, hsn⟩ : ∃ sn, (Lib.byteCells cs).length = sn := ⟨_, rfl⟩
  have HSN := Lib.hid hsn
  rw [hsn] at hsc ⊢
  clear h hG hcap hb hrow hsrc hN hsn
  go_enter Try.func57, Try.ntmps57
  go_wp2_with fail
  go_loopw [4, 14] (fun u i wr => InRR cs R T r room fuse down w u i wr) (fun _ i _ => n - (intOf i).toNat)
  case atStart => exact ⟨[], R, 0, rfl, rfl, Nat.le_refl _, by simp, by simp, HG.out, by simpa using HCAP.out, by simpa using HH.out, Turns.refl _ _⟩
  case round =>
    obtain ⟨A, B, j, rfl, rfl, hj, hrst, hlen, hgood, hcaps, hd, ht⟩ := hrel
    have HD := Lib.hid hd
    have HT := Lib.hid ht
    have HRS := Lib.hid hrst
    have HGD := Lib.hid hgood
    have HLN := Lib.hid hlen
    have HCP := Lib.hid hcaps
    have HJ := Lib.hid hj
    rw [HN.out] at hlen
    obtain ⟨fv, fz, hb, _, hrow, _⟩ := hd.blk
    obtain ⟨a', cap', rfl⟩ : ∃ a cap, fv = .slice a (A ++ B).length cap := by
      rcases hrow.2 with ⟨rfl, h0⟩ | ⟨g, cap, cur, rfl, _⟩
      · exact ⟨none, 0, by rw [h0]⟩
      · exact ⟨_, cap, rfl⟩
    have c0 : wr.cell? ⟨r, 0, none⟩ = some (.slice a' (A ++ B).length cap') := by simp [World.cell?, hb]
    cases B with
    | cons x B =>
      obtain ⟨g, rfl⟩ : ∃ g, a' = some ⟨g, 0, none⟩ := by
        rcases hrow.2 with ⟨h1, h0⟩ | ⟨g, cap, cur, h1, _⟩
        · simp at h0
        · injection h1 with e1
          exact ⟨g, e1⟩
      obtain ⟨hTg, hgr, hgl, _, hgs⟩ := hd.row_block c0
      have hx : (A ++ x :: B)[A.length]? = some x := by simp
      have e1 := (hrow.cellAt (A.length * 3 + 1) (by simp; omega)).trans (refCells_at _ _ _ hx).2.1
      have e2 := (hrow.cellAt (A.length * 3 + 2) (by simp; omega)).trans (refCells_at _ _ _ hx).2.2
      have zf : ∀ o, wr.frozen? ⟨g, o, none⟩ = some false ∨ True := fun _ => .inr trivial
      obtain ⟨z1, z2⟩ : wr.frozen? ⟨g, A.length * 3 + 1, none⟩ = false ∧ wr.frozen? ⟨g, A.length * 3 + 2, none⟩ = false := by
        rcases hrow.2 with ⟨h1, _⟩ | ⟨g', cap', cur, hv', _, hg, _⟩
        · cases h1
        · cases hv'
          simp [World.frozen?, hg]
      obtain ⟨hbs, hsy0, hsy1⟩ := hgood x (by simp)
      have hxb := hd.bytes x (by simp)
      obtain ⟨va, vc, hv⟩ : ∃ a c, x.v = .slice a x.bs.length c := by
        rcases hxb.1 with ⟨h1, h2⟩ | ⟨ad, c, h1, _⟩
        · exact ⟨none, 0, by rw [h1, h2]; rfl⟩
        · exact ⟨_, c, h1⟩
      have hvc : x.bs.length ≤ vc := by
        have h8 := hcaps x (by simp)
        rw [hv] at h8
        exact h8
      rw [hv] at e1
      obtain ⟨y, hy⟩ : ∃ y : Nat, x.syn = (y : Int) := ⟨x.syn.toNat, by omega⟩
      rw [hy] at e2 hsy1
      obtain ⟨N, hNN⟩ : ∃ N, x.bs.length = N := ⟨_, rfl⟩
      rw [hNN] at e1 hbs hsy1 hvc
      obtain ⟨un, hun⟩ : ∃ un : Nat, (N : Int) - (y : Int) = (un : Int) := ⟨N - y, by omega⟩
      obtain ⟨k, hk⟩ : ∃ k, A.length = k := ⟨_, rfl⟩
      have hkn : k < n := by simp at hlen; omega
      have hl2 : (A ++ x :: B).length = n := by simp at hlen ⊢; omega
      have HC0 := Lib.hid c0
      rw [hl2] at c0
      rw [hk] at e1 e2 z1 z2 ⊢
      have hi0 : (0 : Int) ≤ (k : Int) := by omega
      have hi1 : (k : Int) < (n : Int) := by omega
      have HV := Lib.hid hv
      have HY := Lib.hid hy
      have HNN := Lib.hid hNN
      have HK := Lib.hid hk
      have HXB := Lib.hid hxb
      have HGS := Lib.hid hgs
      have HTG := Lib.hid hTg
      have HX := Lib.hid hx
      have HL2 := Lib.hid hl2
      clear hd ht hrst hgood hlen hcaps hj hb hrow hTg hgr hgl hgs hx zf hxb hv hy hNN hsy0 hl2 hk
      go_wp2_with fail
      go_quiet (fail)
      have hl2 : ¬ (0 : Int) < (un : Int) ∨ (0 : Int) < (un : Int) := by omega
      by_cases hu : y < N
      · have hu' : (0 : Int) < (un : Int) := by omega
        clear hl2
        have hjb : (j : Int) ≤ 1000000000000 := by have := HJ.out; have := HK.out; omega
        by_cases hjs : j < sn
        · obtain ⟨ch, hch⟩ : ∃ ch, cs[j]? = some ch := ⟨_, List.getElem?_eq_getElem (by have := HSN.out; simp [Lib.byteCells] at this; omega)⟩
          have hsr := HSRC.out.kept HT.out
          rw [HSN.out] at hsr
          rcases hsr with ⟨h1, h2⟩ | ⟨ad, cc, h1, h2, h3, h4, h5, h6⟩
          · have := HSN.out
            rw [h2] at this
            simp at this
            omega
          · injection h1 with h1 h1' h1''
            subst h1 h1''
            have hc1 := h5 j (.int .u8 (ch.toNat : Int)) (by simp [Lib.byteCells, hch])
            have HCH := Lib.hid hch
            have hjs' : (j : Int) < (sn : Int) := by omega
            clear h2 h3 h4 h5 h6 hch h1'
            obtain ⟨q, hq⟩ : ∃ q : Nat, (ch.toNat : Int) % ((un : Int) + 1) = (q : Int) := ⟨ch.toNat % (un + 1), by rw [Int.natCast_emod]; rfl⟩
            have hqn : ch.toNat % (un + 1) = q := by
              have : ((ch.toNat % (un + 1) : Nat) : Int) = (q : Int) := by rw [← hq, Int.natCast_emod]; rfl
              omega
            have hqb : q ≤ un := by have := Nat.mod_lt ch.toNat (show 0 < un + 1 by omega); omega
            have HQN := Lib.hid hqn
            have hcu : wrap64 (ch.toNat : Int) = (ch.toNat : Int) := by
              have := ch.toNat_lt
              unfold wrap64; omega
            have HCU := Lib.hid hcu
            clear hqn hcu
            go_wp2_with fail
            rw [HCU.out]
            have hsl := run_slice_to va N vc (y + q) ((y : Int) + (q : Int)) (by omega) (by omega)
            have hub : (un : Int) ≤ 140737488355328 := by omega
            have hyb : (y : Int) ≤ 140737488355328 := by omega
            have hqb' : (q : Int) ≤ 140737488355328 := by omega
            clear hc1
            go_region
            obtain ⟨wz, hwz, hrz, htz, cz, bz, yz, zz⟩ := rst_put HD.out HX.out HC0.out HV.out HNN.out (y + q) (by omega) (nq + 1)
            rw [HK.out] at hwz bz yz zz
            rw [hwz]
            rw [HY.out] at yz
            have HRZ := Lib.hid hrz
            have HTZ := Lib.hid htz
            have HCZ := Lib.hid cz
            clear hwz hrz htz cz c0 e1 e2 z1 z2 hsl
            go_wp2_with fail
            go_roundw
            case rel =>
              have hKK : y + q = rK x ((cs.drop j).headD 0).toNat := by
                have h8 := HQN.out
                have h9 : N - y = un := by omega
                have h10 : (cs.drop j).headD 0 = ch := by rw [List.headD_eq_head?_getD, List.head?_drop, HCH.out]; rfl
                simp only [rK, HY.out, HNN.out, h10]
                rw [if_pos (by omega), Int.toNat_natCast, h9, h8]
              have hxz : ((A ++ x :: B).set A.length ⟨x.name, .slice va (y + q) vc, x.bs.take (y + q), x.syn⟩)[A.length]? = some ⟨x.name, .slice va (y + q) vc, x.bs.take (y + q), x.syn⟩ := by rw [List.getElem?_set_self (by simp)]
              have hmk := HRZ.out.mark hxz (by rw [List.length_set]; exact HCZ.out) ((y + q : Nat) : Int)
              rw [set_set, HK.out] at hmk
              have hstep := InRR.step (K := y + q) (j' := j + 1) (w' := _) HJ.out HRS.out HLN.out HGD.out HCP.out ⟨va, vc, HV.out⟩ hKK (by rw [if_pos (by rw [HY.out, HNN.out]; omega)]) (by rw [HV.out, HK.out]; exact hmk.1) ((HT.out.trans HTZ.out (fun _ h => .inl h)).trans ((onlyD_set _ _ _ _).turns hmk.2) (fun _ h => .inl h))
              rw [HK.out] at hstep
              exact hstep
            case measure => simp [intOf]; omega
        · have hjs' : ¬ (j : Int) < (sn : Int) := by omega
          go_wp2_with fail
          have hsl := run_slice_to va N vc y (y : Int) rfl (by omega)
          have hub : (un : Int) ≤ 140737488355328 := by omega
          have hyb : (y : Int) ≤ 140737488355328 := by omega
          go_region
          obtain ⟨wz, hwz, hrz, htz, cz, bz, yz, zz⟩ := rst_put HD.out HX.out HC0.out HV.out HNN.out (y) (by omega) (nq + 1)
          rw [HK.out] at hwz bz yz zz
          rw [hwz]
          rw [HY.out] at yz
          have HRZ := Lib.hid hrz
          have HTZ := Lib.hid htz
          have HCZ := Lib.hid cz
          clear hwz hrz htz cz c0 e1 e2 z1 z2 hsl
          go_wp2_with fail
          go_roundw
          case rel =>
            have hKK : y = rK x ((cs.drop j).headD 0).toNat := by
              have h10 : (cs.drop j).headD 0 = 0 := by
                rw [List.headD_eq_head?_getD, List.head?_drop, List.getElem?_eq_none (by have := HSN.out; simp [Lib.byteCells] at this; omega)]; rfl
              simp only [rK, HY.out, HNN.out, h10]
              rw [if_pos (by omega)]
              simp
            have hxz : ((A ++ x :: B).set A.length ⟨x.name, .slice va (y) vc, x.bs.take (y), x.syn⟩)[A.length]? = some ⟨x.name, .slice va (y) vc, x.bs.take (y), x.syn⟩ := by rw [List.getElem?_set_self (by simp)]
            have hmk := HRZ.out.mark hxz (by rw [List.length_set]; exact HCZ.out) ((y : Nat) : Int)
            rw [set_set, HK.out] at hmk
            have hstep := InRR.step (K := y) (j' := j + 1) (w' := _) HJ.out HRS.out HLN.out HGD.out HCP.out ⟨va, vc, HV.out⟩ hKK (by rw [if_pos (by rw [HY.out, HNN.out]; omega)]) (by rw [HV.out, HK.out]; exact hmk.1) ((HT.out.trans HTZ.out (fun _ h => .inl h)).trans ((onlyD_set _ _ _ _).turns hmk.2) (fun _ h => .inl h))
            rw [HK.out] at hstep
            exact hstep
          case measure => simp [intOf]; omega
      · have hu' : ¬ (0 : Int) < (un : Int) := by omega
        clear hl2
        go_wp2_with fail
        go_roundw
        case rel =>
          have hKK : N = rK x ((cs.drop j).headD 0).toNat := by
            simp only [rK, HY.out, HNN.out]
            rw [if_neg (by omega)]
          have hd' : RefAt (wr.drewN nq) T r (A ++ x :: B) room fuse down := HD.out.same2 (Nat.le_refl _) fun _ _ _ => rfl
          have hmk := hd'.mark HX.out HC0.out ((N : Nat) : Int)
          have e5 : rstV x.v N = x.v := by rw [HV.out, HNN.out]; rfl
          have e6 : x.bs.take N = x.bs := by rw [← HNN.out, List.take_length]
          rw [HK.out] at hmk
          have hstep := InRR.step (K := N) (j' := j) (w' := _) HJ.out HRS.out HLN.out HGD.out HCP.out ⟨va, vc, HV.out⟩ hKK (by rw [if_neg (by rw [HY.out, HNN.out]; omega)]) (by rw [e5, e6, HK.out]; exact hmk.1) ((HT.out.trans (show Turns T wr (wr.drewN nq) from ⟨rfl, rfl, rfl, Nat.le_refl _, fun _ _ _ => rfl⟩) (fun _ h => .inl h)).trans ((onlyD_set _ _ _ _).turns hmk.2) (fun _ h => .inl h))
          rw [HK.out] at hstep
          exact hstep
        case measure => simp [intOf]; omega
    | nil =>
      have hlt : A.length = n := by simp at hlen; omega
      have c4 : wr.cell? ⟨r, 4, none⟩ = some (.bool down) := by simp [World.cell?, hb]
      have z4 : wr.frozen? ⟨r, 4, none⟩ = false := by simp [World.frozen?, hb]
      have c2 : wr.cell? ⟨r, 2, none⟩ = some (.bool (decide (0 ≤ fuse))) := by simp [World.cell?, hb]
      have z2 : wr.frozen? ⟨r, 2, none⟩ = false := by simp [World.frozen?, hb]
      clear hd ht hrst hgood hlen hcaps hj hb hrow c0
      rw [hlt]
      go_wp2_with fail
      go_end0
      have o1 := onlyD_set wr r 4 (.bool false)
      have o2 := onlyD_set (wr.setCell ⟨r, 4, none⟩ (.bool false)) r 2 (.bool false)
      have e1 : rRst cs R = A ++ [] := by rw [HRS.out]; cases (cs.drop j) <;> rfl
      rw [e1]
      refine ⟨rfl, HT.out.trans ((o1.trans o2).turns HD.out.here) (fun _ h => .inl h), HD.out.set (fun fv fz hb hz => ⟨fz, ?_, fun h => by omega⟩) (o1.trans o2), HCP.out⟩
      have b1 := heap_setCell_same wr r 4 _ _ (.bool false) hb
      have b2 := heap_setCell_same _ r 2 _ _ (.bool false) b1
      rw [b2]; rfl
end Go.Proofs.Ytjkgcpbgacdgaaa
