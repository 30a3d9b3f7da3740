/- The document's disk: bytes are laid behind a file's. Conditions: the files' number; no sum passes its bound. -/
import Derived.Test.YtjkgcpbgacdgaaaAM
import Derived.BigQuiet
namespace Go.Proofs.Ytjkgcpbgacdgaaa
open Go.RowKit Go.Sort
theorem Src.srcN {w : World} {v : Value} {xs : List Value} (h : Src w v xs) : SrcN w 1 v xs.length xs := by
  refine ⟨by simp, ?_⟩
  rcases h with ⟨h1, h2⟩ | ⟨ad, c, h1, h2, h3⟩
  · exact .inl ⟨h1, by rw [h2]; rfl⟩
  · exact .inr ⟨ad, c, h1, h2, h3⟩
/-- What the document's disk does at an append: just what the program's says. -/
def AppRef (w : World) (T : Nat → Prop) (r : Nat) (L : List Ent) (room fuse : Int) (down : Bool) (s : ByteArray) (xs : List Value) (e : Ending) (w' : World) : Prop :=
  ∃ (j : Nat) (err : Int) (R' : List RFile), e = .returned (.tuple #[.int .i64 (j : Nat), .int .i64 err]) ∧ Turns T w w' ∧ Caps R' ∧ RefAt w' (With T w w') r R' room (apF fuse down s) (apD fuse down s) ∧
    ∀ L' j' err', AppSays L room fuse down s xs L' j' err' → j' = j ∧ err' = err ∧ Like L' R'
/-- A file is there, to be written. -/
structure Mid (w w2 : World) (T T2 : Nat → Prop) (r : Nat) (L : List Ent) (R0 : List RFile) (k : Nat) (x : RFile) (room fuse : Int) (down : Bool) (s : ByteArray) : Prop where
  ref : RefAt w2 T2 r R0 room fuse down
  at_ : R0[k]? = some x
  sum : lensR R0 = lens L
  like : ∀ f v v' ys, Like (addE L s f v ys) (R0.set k ⟨x.name, v', x.bs ++ ys, x.syn⟩)
  turn : Turns T w w2
  sets : ∀ z, T2 z → T z ∨ (w.heap.size ≤ z ∧ z < w2.heap.size)
  len : R0.length ≤ L.length + 1
  caps : Caps R0
theorem Mid.drewN {w w2 : World} {T T2 : Nat → Prop} {r : Nat} {L : List Ent} {R0 : List RFile} {k : Nat} {x : RFile} {room fuse : Int} {down : Bool} {s : ByteArray} (h : Mid w w2 T T2 r L R0 k x room fuse down s) (n : Nat) : Mid w (w2.drewN n) T T2 r L R0 k x room fuse down s :=
  ⟨h.ref.same2 (Nat.le_refl _) fun _ _ _ => rfl, h.at_, h.sum, h.like, ⟨h.turn.os, h.turn.tape, h.turn.output, h.turn.size, h.turn.block⟩, h.sets, h.len, h.caps⟩
theorem src_of_row {w : World} {base n : Nat} {v : Value} {xs : List Value} (h : w.ownsRow base 5 1 v n xs) (h1 : ∀ u ∈ xs, u.oneCell' = true) : Src w v xs := by
  have hl : xs.length = n := by rw [h.1]; omega
  rcases h.2 with ⟨rfl, h0⟩ | ⟨g, cap, cur, rfl, _⟩
  · exact .inl ⟨rfl, List.eq_nil_of_length_eq_zero (by omega)⟩
  · exact .inr ⟨_, cap, by rw [hl], h.cells rfl, h1⟩
theorem cap_of_row {w : World} {base n m c size : Nat} {e : TypeId} {a : Option Addr} {xs : List Value} (h : w.ownsRow base e size (.slice a m c) n xs) : capOk (.slice a m c) := by
  rcases h.2 with ⟨h1, _⟩ | ⟨g, cap, cur, h1, _, _, h2, _⟩
  · cases h1; exact Nat.le_refl 0
  · cases h1; exact h2
theorem Src.one {w : World} {v : Value} {xs : List Value} (h : Src w v xs) : ∀ u ∈ xs, u.oneCell' = true := by
  rcases h with ⟨_, h2⟩ | ⟨ad, c, _, _, h3⟩
  · rw [h2]; intro u hu; cases hu
  · exact h3
theorem refApp_end {w w4 w6 : World} {T T2 : Nat → Prop} {r : Nat} {L : List Ent} {R0 : List RFile} {k : Nat} {y : RFile} {room fuse : Int} {down : Bool} {s : ByteArray} (hm : Mid w w4 T T2 r L R0 k y room fuse down s) (hb : Below w4.heap.size w4 w6) {g cap : Nat}
    (hc : w4.cell? ⟨r, 0, none⟩ = some (.slice (some ⟨g, 0, none⟩) R0.length cap)) {a6 : Option Addr} {c6 m : Nat} {ys : List Value} (hrow : w6.ownsRow w4.heap.size 5 1 (.slice a6 m c6) m (y.bs ++ ys)) (h1 : ∀ u ∈ ys, u.oneCell' = true) :
    Turns T w (w6.setCell ⟨g, k * 3 + 1, none⟩ (.slice a6 m c6)) ∧ RefAt (w6.setCell ⟨g, k * 3 + 1, none⟩ (.slice a6 m c6)) (With T w (w6.setCell ⟨g, k * 3 + 1, none⟩ (.slice a6 m c6))) r (R0.set k ⟨y.name, .slice a6 m c6, y.bs ++ ys, y.syn⟩) room fuse down := by
  obtain ⟨hTg, hgr, hgl, _, _⟩ := hm.ref.row_block hc
  have ho := onlyD_set w6 g (k * 3 + 1) (.slice a6 m c6)
  have hsz : (w6.setCell ⟨g, k * 3 + 1, none⟩ (.slice a6 m c6)).heap.size = w6.heap.size := ho.2.2.2.1
  have hs1 := hm.turn.size
  have hs2 := hb.size
  have hrl : r < w4.heap.size := World.block_lt_of_cell? w4 _ hc
  have hsets : ∀ z, T2 z → With T w (w6.setCell ⟨g, k * 3 + 1, none⟩ (.slice a6 m c6)) z := fun z hz => by
    rcases hm.sets z hz with h | h
    · exact .inl h
    · exact .inr ⟨h.1, by rw [hsz]; omega⟩
  have hr6 := (hm.ref.later hb).more hsets
  have hc6 := (hb.cell (p := ⟨r, 0, none⟩) hrl).trans hc
  refine ⟨hm.turn.trans ((Turns.of_below (S := fun x => x = g) hb).trans (ho.turns (S := fun x => x = g) rfl) (fun _ h => .inl h)) (fun z hz => hm.sets z (hz ▸ hTg) |>.imp id (fun h => h.1)), ?_⟩
  have hnew := fun b hb' => hrow.lt b hb'
  refine hr6.putV hm.at_ hc6 (.slice a6 m c6) (y.bs ++ ys) ⟨src_of_row hrow (fun u hu => ?_), fun b hb' => ⟨.inr ⟨?_, ?_⟩, ?_, (hnew b hb').2⟩⟩ (fun hb' => ?_)
  · rcases List.mem_append.1 hu with hu | hu
    · exact (hm.ref.bytes y (List.mem_of_getElem? hm.at_)).1.one u hu
    · exact h1 u hu
  · have := (hnew b hb').1; omega
  · rw [hsz]; exact (hnew b hb').2
  · have := (hnew b hb').1; omega
  · have := (hnew g hb').1; omega
theorem lensR_ins (R : List RFile) (q : Nat) (f : RFile) : lensR (R.take q ++ f :: R.drop q) = lensR R + f.bs.length := by
  have h1 : lensR R = lensR (R.take q) + lensR (R.drop q) := by
    unfold lensR
    rw [← List.sum_append, ← List.map_append, List.take_append_drop]
  rw [h1]
  unfold lensR
  rw [List.map_append, List.sum_append, List.map_cons, List.sum_cons]
  omega
set_option maxRecDepth 100000 in
set_option maxHeartbeats 1000000 in
theorem refAppend (w : World) (T : Nat → Prop) (r : Nat) (L : List Ent) (R : List RFile) (room fuse : Int) (down : Bool) (s : ByteArray) (src : Value) (xs : List Value) (hs : s.size ≤ maxLen) (h : RefAt w T r R room fuse down) (hl : Like L R) (hcap : Caps R) (ha : Apart (L.map pE)) (hf : -1 ≤ fuse) (hf2 : fuse < 2 ^ 63) (hr : 0 ≤ room) (hr2 : room < 2 ^ 63) (hsrc : SrcAt w T src xs) (hbytes : lens L + xs.length ≤ 140737488355328) (hn : L.length ≤ 100000000000) :
    Calls Try.prog 50 #[.pointer (some ⟨r, 0, none⟩), .string s, src] w (AppRef w T r L room fuse down s xs) := by
  obtain ⟨a, c, rfl, hac⟩ := hsrc.form
  obtain ⟨fv, fz, hb, _⟩ := h.blk
  have c4 : w.cell? ⟨r, 4, none⟩ = some (.bool down) := by simp [World.cell?, hb]
  have HCAP := Lib.hid hcap
  clear hcap
  have HH := Lib.hid h
  have HL := Lib.hid hl
  have HA := Lib.hid ha
  have HN := Lib.hid hn
  have HS := Lib.hid hsrc
  have HAC := Lib.hid hac
  have HBY := Lib.hid hbytes
  clear h hl ha hn hsrc hac hb hbytes
  go_enter Try.func50, Try.ntmps50
  cases down with
  | true =>
    go_wp2_with fail
    go_ret2
    refine ⟨0, 8, R, rfl, Turns.refl _ _, HCAP.out, (by simp only [apF, apD]; exact HH.out.more (fun _ h => .inl h)), fun L' j' err' hs => ?_⟩
    rcases hs with ⟨_, rfl, rfl, rfl⟩ | ⟨h1, _⟩ | ⟨h1, _⟩ | ⟨h1, _⟩
    · exact ⟨rfl, rfl, HL.out⟩
    all_goals cases h1
  | false =>
    go_wp2_with fail
    refine (rname s w hs).mono ?_
    rintro e1 w1 ⟨rfl, rfl⟩
    cases hnm : nameB s.data.toList with
    | false =>
      have HNM := Lib.hid hnm
      go_wp2_with fail
      go_ret2
      refine ⟨0, 1, R, rfl, Turns.refl _ _, HCAP.out, (by simp only [apF, apD, HNM.out]; exact HH.out.more (fun _ h => .inl h)), fun L' j' err' hs => ?_⟩
      rcases hs with ⟨h1, _⟩ | ⟨_, _, rfl, rfl, rfl⟩ | ⟨_, h1, _⟩ | ⟨_, h1, _⟩
      · cases h1
      · exact ⟨rfl, rfl, HL.out⟩
      all_goals rw [HNM.out] at h1; cases h1
    | true =>
      have HNM := Lib.hid hnm
      have haf : apF fuse false s = opF fuse := by simp [apF, hnm]
      have had : apD fuse false s = opD fuse false := by simp [apD, hnm]
      have HAF := Lib.hid haf
      have HAD := Lib.hid had
      clear haf had
      go_wp2_with fail
      clear hnm
      refine (refOperation w T r R room fuse false HH.out hf hf2).mono ?_
      rintro e1 w1 ⟨rfl, ho1, hr1⟩
      have HO1 := Lib.hid ho1
      have HR1 := Lib.hid hr1
      clear ho1 hr1 c4
      by_cases h0 : opE fuse = 0
      · rw [h0]
        have HZ := Lib.hid h0
        clear h0
        go_wp2_with fail
        refine (refFind w1 T r R room (opF fuse) (opD fuse false) s HR1.out (by rw [← like_len HL.out]; have := HN.out; omega)).mono ?_
        rintro e2 w2 ⟨rfl, rfl⟩
        rcases find_like HL.out HA.out s with ⟨k, x, e, f1, f2, f6, f3, f4, f5⟩ | ⟨f1, f2, f3⟩
        case' inl =>
          have hm : Mid w w1 T T r L R k x room (opF fuse) (opD fuse false) s := ⟨HR1.out, f2, (like_lens HL.out).symm, fun f v v' ys => by
            simp only [addE, f4]
            have hb : e.bs = x.bs := congrArg (fun p : PF => p.bs) f5
            have hy : e.syn = x.syn := congrArg (fun p : PF => p.syn) f5
            rw [hb, hy]
            exact like_set HL.out HA.out f2 f3 _ _ _ _, HO1.out.turns HH.out.here, fun z hz => .inl hz, by rw [like_len HL.out]; omega, HCAP.out⟩
          rw [f1]
          obtain ⟨y, T2, R0, hm⟩ : ∃ y T2 R0, Mid w w1 T T2 r L R0 k y room (opF fuse) (opD fuse false) s := ⟨_, _, _, hm⟩
          have HM := Lib.hid hm
          clear f1 f2 f3 f4 f5 f6 hm
          obtain ⟨w3, rfl⟩ : ∃ w3, w3 = w1 := ⟨_, rfl⟩
          go_wp2_with fail
        case' inr =>
          rw [f1]
          have F2 := Lib.hid f2
          have F3 := Lib.hid f3
          clear f1 f2 f3
          go_wp2_with fail
          refine (refPut w1 T r R room (opF fuse) (opD fuse false) ⟨s, .slice none 0 0, [], 0⟩ HR1.out ⟨.inl ⟨rfl, rfl⟩, fun g hg => by cases hg⟩ (by rw [← like_len HL.out]; have := HN.out; omega)).mono ?_
          rintro e3 w3 ⟨k, rfl, hp, ht, hr3⟩
          have hm : Mid w w3 T (With T w1 w3) r L (R.take k ++ ⟨s, .slice none 0 0, [], 0⟩ :: R.drop k) k ⟨s, .slice none 0 0, [], 0⟩ room (opF fuse) (opD fuse false) s := ⟨hr3, by
            rw [List.getElem?_append_right (by rw [List.length_take]; omega), List.length_take, Nat.min_eq_left hp.1]; simp, by rw [lensR_ins, like_lens HL.out]; rfl, fun f v v' ys => by
            simp only [addE, F2.out]
            have e1 : (R.take k ++ (⟨s, .slice none 0 0, [], 0⟩ : RFile) :: R.drop k).set k ⟨s, v', [] ++ ys, 0⟩ = R.take k ++ ⟨s, v', ys, 0⟩ :: R.drop k := by
              rw [List.set_append_right _ _ (by rw [List.length_take]; omega), List.length_take, Nat.min_eq_left hp.1]; simp
            rw [e1]
            exact like_ins (e := ⟨s, f, v, ys, 0⟩) (y := ⟨s, v', ys, 0⟩) HL.out hp F3.out rfl, (HO1.out.turns HH.out.here).trans ht (fun z hz => .inl (hz ▸ HH.out.here)), fun z hz => by
              rcases hz with hz | hz
              · exact .inl hz
              · exact .inr ⟨by rw [← HO1.out.sized]; exact hz.1, hz.2⟩, by
            have h1 := hp.1
            have h2 := like_len HL.out
            rw [List.length_append, List.length_take, List.length_cons, List.length_drop]
            omega, HCAP.out.ins k (Nat.le_refl 0)⟩
          obtain ⟨y, T2, R0, hm⟩ : ∃ y T2 R0, Mid w w3 T T2 r L R0 k y room (opF fuse) (opD fuse false) s := ⟨_, _, _, hm⟩
          have HM := Lib.hid hm
          clear hp ht hr3 hm
          go_wp2_with fail
        all_goals
          obtain ⟨fv3, fz3, hb3, _, hrow3, _⟩ := HM.out.ref.blk
          have hkl : k < R0.length := (List.getElem?_eq_some_iff.1 HM.out.at_).1
          obtain ⟨g, cap, rfl⟩ : ∃ g cap, fv3 = .slice (some ⟨g, 0, none⟩) R0.length cap := by
            rcases hrow3.2 with ⟨rfl, h0⟩ | ⟨g, cap, cur, rfl, _⟩
            · omega
            · exact ⟨_, cap, rfl⟩
          have c0 : w3.cell? ⟨r, 0, none⟩ = some (.slice (some ⟨g, 0, none⟩) R0.length cap) := by simp [World.cell?, hb3]
          have c1 : w3.cell? ⟨r, 1, none⟩ = some (.int .i64 room) := by simp [World.cell?, hb3]
          obtain ⟨U, hU⟩ : ∃ U, lensR R0 = U := ⟨_, rfl⟩
          have hUL : (U : Int) ≤ 140737488355328 := by have := HBY.out; have := HM.out.sum; omega
          have hlen0 : R0.length ≤ 1000000000000 := by have := HM.out.len; have := HN.out; omega
          have cu := fun n => Calls.quiet_of_same (w := w3) (n := n) (v := .int .i64 (U : Int)) ((refUsed (w3.drewN n) T2 r R0 room (opF fuse) (opD fuse false) (HM.out.ref.same2 (Nat.le_refl _) fun _ _ _ => rfl) hlen0 (by omega)).mono fun _ _ h => ⟨by rw [← hU]; exact h.1, h.2.symm⟩)
          have HU := Lib.hid hU
          have HROW := Lib.hid hrow3
          have HC0 := Lib.hid c0
          have HKL := Lib.hid hkl
          clear hb3 hrow3 hU c0 hkl
          go_quiet ((go_at_call 60; exact cu _))
          clear cu c1
          have hj : min (xs.length : Int) (max (room - (U : Int)) 0) = ((appN L room xs.length : Nat) : Int) := by
            simp only [appN, ← HM.out.sum, HU.out]
            omega
          rw [hj]
          generalize room - (U : Int) = Q
          have hj2 : appN L room xs.length ≤ xs.length := by unfold appN; omega
          obtain ⟨J, hJ⟩ : ∃ J, J = appN L room xs.length := ⟨_, rfl⟩
          rw [← hJ] at hj2 ⊢
          have HJ := Lib.hid hJ
          clear hj hJ hUL hlen0
          have HM4 := Lib.hid (HM.out.drewN nq)
          have c0 : (w3.drewN nq).cell? ⟨r, 0, none⟩ = some (.slice (some ⟨g, 0, none⟩) R0.length cap) := HC0.out
          have e1 := (HROW.out.cellAt (k * 3 + 1) (by have := HKL.out; omega)).trans (refCells_at R0 k y HM.out.at_).2.1
          have z1 : w3.frozen? ⟨g, k * 3 + 1, none⟩ = false := by
            rcases HROW.out.2 with ⟨h1, _⟩ | ⟨g', cap', cur, hv', _, hg, _⟩
            · cases h1
            · cases hv'
              simp [World.frozen?, hg]
          have hgl : g < w3.heap.size := World.block_lt_of_cell? w3 _ e1
          obtain ⟨hyv1, _⟩ := HM.out.ref.bytes y (List.mem_of_getElem? HM.out.at_)
          obtain ⟨va, vc, hv⟩ : ∃ a c, y.v = .slice a y.bs.length c := by
            rcases hyv1 with ⟨h1, h2⟩ | ⟨ad, c, h1, _⟩
            · exact ⟨none, 0, by rw [h1, h2]; rfl⟩
            · exact ⟨_, c, h1⟩
          have hsx := HS.out.kept HM.out.turn
          have hs2 := src_take hsx hj2
          have hs1 := hyv1
          rw [hv] at e1 hs1
          have hsl := slice_to a xs.length c J (J : Int) rfl hj2 HAC.out
          have hrl : r < w3.heap.size := World.block_lt_of_cell? w3 _ HC0.out
          obtain ⟨w4, hw4⟩ : ∃ w4, w3.drewN nq = w4 := ⟨_, rfl⟩
          have hh4 : w4.heap = w3.heap := by rw [← hw4]; rfl
          have e4 : w4.cell? ⟨g, k * 3 + 1, none⟩ = some (.slice va y.bs.length vc) := by rw [← hw4]; exact e1
          have z4 : w4.frozen? ⟨g, k * 3 + 1, none⟩ = false := by rw [← hw4]; exact z1
          have hs1' : SrcN w4 1 (.slice va y.bs.length vc) y.bs.length y.bs := by rw [← hw4]; exact (Src.same (w := w3) hs1 fun _ _ => rfl).srcN
          have hs2' : SrcN w4 1 (.slice a J c) J (xs.take J) := by
            have h5 := (Src.same (w := w3) (w' := w3.drewN nq) hs2 fun _ _ => rfl).srcN
            rw [List.length_take, Nat.min_eq_left hj2, hw4] at h5
            exact h5
          have hN : y.bs.length + J ≤ 140737488355328 := by
            have h6 := HBY.out
            have h7 : y.bs.length ≤ lensR R0 := by
              have := lensR_take R0 k y HM.out.at_
              have := lensR_le R0 (k + 1)
              omega
            rw [HM.out.sum] at h7
            omega
          rw [hw4] at HM4 c0 ⊢
          obtain ⟨N, hNN⟩ : ∃ N, y.bs.length = N := ⟨_, rfl⟩
          rw [hNN] at e4 hs1' hN
          have HS1 := Lib.hid hs1'
          have HS2 := Lib.hid hs2'
          have HGL := Lib.hid (show g < w4.heap.size by rw [hh4]; exact hgl)
          have HN' := Lib.hid hN
          have HC4 := Lib.hid c0
          have HONE := Lib.hid hsx
          have qa : (w4.alloc (.cells #[] 5)).cell? ⟨g, k * 3 + 1, none⟩ = some (.slice va N vc) := ((Far.alloc0 w4 (Nat.le_refl _) _).cell HGL.out).trans e4
          have hk0 : (0 : Int) ≤ (k : Int) := by omega
          have hk1 : (k : Int) < (R0.length : Int) := by have := HKL.out; omega
          obtain ⟨n0, hn0⟩ : ∃ n0, R0.length = n0 := ⟨_, rfl⟩
          rw [hn0] at c0 hk1
          clear e1 z1 hgl hyv1 hv hsx hs2 hs1 hrl hh4 hs1' hs2' hN hw4 hNN hn0 hj2
          obtain ⟨i0, hi, hz0, hz1, hz2⟩ := info_parts zero5
          have HI := Lib.hid hi
          have HI0 := Lib.hid hz0
          have HI1 := Lib.hid hz1
          have HI2 := Lib.hid hz2
          clear hi hz0 hz1 hz2
          go_wp2_with fail
          go_region_law
            (first
              | ((refine step_append_srcN (by rfl) _ _ 23 (by rfl) w4.heap.size 5 i0 _ 1 1 Try.underlying23 HI.out HI0.out HI1.out HI2.out (by rfl) (by omega) (.slice (some ⟨w4.heap.size, 0, none⟩) 0 0) 0 [] (by rfl) (by first | exact (World.ownsRow_made (w := w4) (base := w4.heap.size) (e := 5) (size := 1) #[] 0 (Nat.le_refl _) (by unfold maxLen; omega) rfl).drew | exact World.ownsRow_made (w := w4) (base := w4.heap.size) (e := 5) (size := 1) #[] 0 (Nat.le_refl _) (by unfold maxLen; omega) rfl) (.slice va N vc) N y.bs (by rfl) (HS1.out.later (((Below.refl _ _).alloc (Nat.le_refl _) _).drew)) (by have := HN'.out; unfold maxLen; omega) (by have := HN'.out; omega) (by simp) ?_; intro a5 c5 w5 hr5 hg5 hat5; simp only [Nat.zero_add, List.nil_append] at hr5 hat5; have hb5 := (((Below.refl w4.heap.size w4).alloc (Nat.le_refl _) _).drew).grown hg5 (by simp) (fun b hb => by simp [Value.ownBlock] at hb; omega); have r5 := (hb5.cell (p := ⟨g, k * 3 + 1, none⟩) HGL.out).trans e4; have HB5 := Lib.hid hb5; have HR5 := Lib.hid hr5; have HO5 := Lib.hid (show ∀ b, (Value.slice a5 N c5).ownBlock = some b → w4.heap.size ≤ b from fun b hb => by rcases hat5 b hb with h1 | h1; (simp [Value.ownBlock] at h1; omega); (simp at h1; omega)); clear hr5 hg5 hat5 hb5))
              | ((refine step_append_srcN (by rfl) _ _ 23 (by rfl) w4.heap.size 5 i0 _ 1 1 Try.underlying23 HI.out HI0.out HI1.out HI2.out (by rfl) (by omega) (.slice _ N _) N y.bs (by rfl) HR5.out (.slice a J c) J (xs.take J) (by rfl) (HS2.out.later HB5.out) (by have := HN'.out; unfold maxLen; omega) (by have := HN'.out; omega) (by exact HB5.out.size) ?_; intro a6 c6 w6 hr6 hg6 hat6; have hb6 := HB5.out.grown hg6 HB5.out.size HO5.out; have r6 := (hb6.cell (p := ⟨g, k * 3 + 1, none⟩) HGL.out).trans e4; have z6 := (hb6.frozen (p := ⟨g, k * 3 + 1, none⟩) HGL.out).trans z4; have HB6 := Lib.hid hb6; have HR6 := Lib.hid hr6; clear hr6 hg6 hat6 hb6)))
          all_goals
            have hend := refApp_end HM4.out HB6.out HC4.out HR6.out (fun u hu => HONE.out.src.one u (List.mem_of_mem_take hu))
            have HEND := Lib.hid hend
            have hfin : ∀ L' j' err', AppSays L room fuse false s xs L' j' err' → j' = J ∧ err' = (if J < xs.length then 7 else 0) ∧ Like L' (R0.set k ⟨y.name, .slice a6 (N + J) c6, y.bs ++ xs.take J, y.syn⟩) := fun L' j' err' hs => by
              rcases hs with ⟨h1, _⟩ | ⟨_, h1, _⟩ | ⟨_, _, h1, _⟩ | ⟨_, _, _, h1, h2, f, v, rfl⟩
              · cases h1
              · rw [HNM.out] at h1; cases h1
              · exact absurd HZ.out h1
              · rw [← HJ.out] at h1
                subst h1
                exact ⟨rfl, h2, HM4.out.like f v _ _⟩
            have HFIN := Lib.hid hfin
            have HCP := Lib.hid (HM4.out.caps.set k (x := ⟨y.name, .slice a6 (N + J) c6, y.bs ++ xs.take J, y.syn⟩) (cap_of_row HR6.out))
            clear hend hfin r5 r6 z6
            by_cases hlt : J < xs.length
            · have hlt' : (J : Int) < (xs.length : Int) := by omega
              have HLT := Lib.hid hlt
              clear hlt
              go_wp2_with fail
              go_ret2
              exact ⟨J, 7, _, rfl, HEND.out.1, HCP.out, by rw [HAF.out, HAD.out]; exact HEND.out.2, fun L' j' err' hs => by have := HFIN.out L' j' err' hs; rw [if_pos HLT.out] at this; exact this⟩
            · have hlt' : ¬ (J : Int) < (xs.length : Int) := by omega
              have HLT := Lib.hid hlt
              clear hlt
              go_wp2_with fail
              go_ret2
              exact ⟨J, 0, _, rfl, HEND.out.1, HCP.out, by rw [HAF.out, HAD.out]; exact HEND.out.2, fun L' j' err' hs => by have := HFIN.out L' j' err' hs; rw [if_neg HLT.out] at this; exact this⟩
      · have hb2 : (opE fuse != 0) = true := by simp [h0]
        have H0 := Lib.hid h0
        clear h0
        go_wp2_with fail
        go_ret2
        refine ⟨0, opE fuse, R, rfl, HO1.out.turns HH.out.here, HCAP.out, by rw [HAF.out, HAD.out]; exact HR1.out.more (fun _ h => .inl h), fun L' j' err' hs => ?_⟩
        rcases hs with ⟨h1, _⟩ | ⟨_, h1, _⟩ | ⟨_, _, _, rfl, rfl, rfl⟩ | ⟨_, _, h1, _⟩
        · cases h1
        · rw [HNM.out] at h1; cases h1
        · exact ⟨rfl, rfl, HL.out⟩
        · exact absurd h1 H0.out
end Go.Proofs.Ytjkgcpbgacdgaaa
