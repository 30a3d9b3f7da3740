/- The document's table: the points of a range go. No condition. -/
import Derived.Test.YtfhdaihladgchaaY
namespace Go.Proofs.Ytfhdaihladgchaa
open Go.RowKit Go.WideMaps
def keep (a b : Int) (p : Pt) : Bool := !inR a b p
def takeL (s f : ByteArray) (a b : Int) (x : RC) : List Pt := if eqB s f x then x.l.filter (keep a b) else x.l
def pc (x : RC) : ByteArray × ByteArray × List Pt := (x.se, x.fi, x.l)
def takeP (s f : ByteArray) (a b : Int) (R : List RC) : List (ByteArray × ByteArray × List Pt) := (R.map fun x => (x.se, x.fi, takeL s f a b x)).filter fun t => decide (t.2.2.length ≠ 0)
def gone (s f : ByteArray) (a b : Int) (R : List RC) : Nat := (R.map fun x => x.l.length - (takeL s f a b x).length).sum
theorem takeL_le (s f : ByteArray) (a b : Int) (x : RC) : (takeL s f a b x).length ≤ x.l.length := by
  unfold takeL
  split
  · exact List.length_filter_le _ _
  · exact Nat.le_refl _
theorem gone_le (s f : ByteArray) (a b : Int) : ∀ R : List RC, gone s f a b R ≤ rtot R
  | [] => Nat.le_refl _
  | x :: r => by
    have := gone_le s f a b r
    unfold gone rtot at this ⊢
    simp only [List.map_cons, List.sum_cons]
    omega
theorem gone_snoc {s f : ByteArray} {a b : Int} {R : List RC} {k : Nat} {x : RC} (h : R[k]? = some x) : gone s f a b (R.take (k + 1)) = gone s f a b (R.take k) + (x.l.length - (takeL s f a b x).length) := by
  obtain ⟨hk, rfl⟩ := List.getElem?_eq_some_iff.1 h
  unfold gone
  rw [List.take_succ_eq_append_getElem hk, List.map_append, List.sum_append_nat]
  simp only [List.map_cons, List.map_nil, List.sum_cons, List.sum_nil, Nat.add_zero]
theorem takeP_snoc {s f : ByteArray} {a b : Int} {R : List RC} {k : Nat} {x : RC} (h : R[k]? = some x) : takeP s f a b (R.take (k + 1)) = takeP s f a b (R.take k) ++ if (takeL s f a b x).length = 0 then [] else [(x.se, x.fi, takeL s f a b x)] := by
  obtain ⟨hk, rfl⟩ := List.getElem?_eq_some_iff.1 h
  unfold takeP
  rw [List.take_succ_eq_append_getElem hk, List.map_append, List.filter_append]
  congr 1
  by_cases h0 : (takeL s f a b R[k]).length = 0
  · simp [List.eq_nil_of_length_eq_zero h0]
  · have h1 : ¬ takeL s f a b R[k] = [] := fun e => h0 (by rw [e]; rfl)
    simp [h1]
theorem rows_apart {w : World} {b b' n n' : Nat} {u v : Value} {xs ys : List Value} (hu : w.ownsRow b 33 4 u n xs) (hv : w.ownsRow b' 55 3 v n' ys) {k : Nat} (hk : u.ownBlock = some k) : v.ownBlock ≠ some k := fun e => by
  obtain ⟨cur, hcur⟩ := row_block hu hk
  rcases hv.2 with ⟨rfl, _⟩ | ⟨g', c, cur', rfl, _, hg', _⟩
  · cases e
  · cases e
    rw [hg'] at hcur
    simp at hcur
def Rows2 (w : World) (R Ro : List RC) (wr : World) : Prop := ∀ y ∈ Ro, y ∈ R ∨ ∃ b', w.heap.size ≤ b' ∧ wr.ownsRow b' 33 4 y.v y.l.length (ptC y.l)
theorem Rows2.same {w wr w' : World} {R Ro : List RC} (h : Rows2 w R Ro wr) (hk : ∀ (g : Nat) (n : Nat) (u : Value) (xs : List Value), wr.ownsRow 0 33 4 u n xs → u.ownBlock = some g → w'.heap[g]? = wr.heap[g]?) : Rows2 w R Ro w' := fun y hy => by
  rcases h y hy with h1 | ⟨b', hb', hu⟩
  · exact .inl h1
  · refine .inr ⟨b', hb', ownsRow_same hu fun g hg => hk g _ _ _ ⟨hu.1, ?_⟩ hg⟩
    rcases hu.2 with hh | ⟨g', c, cur, hh, _, hrest⟩
    · exact .inl hh
    · exact .inr ⟨g', c, cur, hh, Nat.zero_le _, hrest⟩
theorem Rows2.later {w wr w' : World} {R Ro : List RC} (h : Rows2 w R Ro wr) (hb : Below wr.heap.size wr w') : Rows2 w R Ro w' := h.same fun g _ _ _ hu hg => hb.block g (hu.lt g hg).2
def InTake (w : World) (R : List RC) (s f : ByteArray) (a b : Int) (n : Nat) (q out i : Value) (wr : World) : Prop :=
  ∃ (k : Nat) (Ro : List RC), k ≤ n ∧ i = .int .i64 k ∧ q = .int .i64 (gone s f a b (R.take k)) ∧ Ro.map pc = takeP s f a b (R.take k) ∧ Ro.length ≤ k ∧ wr.ownsRow w.heap.size 55 3 out Ro.length (rcC Ro) ∧ Rows2 w R Ro wr ∧ Below w.heap.size w wr
def InKeep (w1 : World) (l : List Pt) (a b : Int) (n q0 : Nat) (q lv j : Value) (wi : World) : Prop :=
  ∃ (m g : Nat), m ≤ n ∧ j = .int .i64 m ∧ q = .int .i64 ((q0 + g : Nat) : Int) ∧ g + ((l.take m).filter (keep a b)).length = m ∧ wi.ownsRow w1.heap.size 33 4 lv ((l.take m).filter (keep a b)).length (ptC ((l.take m).filter (keep a b))) ∧ Below w1.heap.size w1 wi
theorem keep_no {a b : Int} {p : Pt} (h1 : a ≤ p.t) (h2 : p.t ≤ b) : keep a b p = false := by unfold keep inR; rw [decide_eq_true h1, decide_eq_true h2]; rfl
theorem keep_lo {a b : Int} {p : Pt} (h1 : ¬ a ≤ p.t) : keep a b p = true := by unfold keep inR; rw [decide_eq_false h1]; rfl
theorem keep_hi {a b : Int} {p : Pt} (h1 : ¬ p.t ≤ b) : keep a b p = true := by unfold keep inR; rw [decide_eq_false h1, Bool.and_false]; rfl
def RTakePost (w : World) (T : Nat → Prop) (r : Nat) (R : List RC) (most : Int) (s f : ByteArray) (a b : Int) (e : Ending) (w' : World) : Prop :=
  ∃ R', e = .returned (.int .i64 (gone s f a b R)) ∧ Turns T w w' ∧ RefAt w' (With T w w') r R' most ∧ R'.map pc = takeP s f a b R
set_option maxHeartbeats 4000000 in
set_option maxRecDepth 100000 in
theorem refTake (w : World) (T : Nat → Prop) (r : Nat) (R : List RC) (most : Int) (s f : ByteArray) (a b : Int) (h : RefAt w T r R most) (hl : R.length ≤ 1000000000000) (hn : rtot R ≤ 1000000000000) :
    Calls Try.prog 47 #[.pointer (some ⟨r, 0, none⟩), .string s, .string f, .bool false, .int .i64 a, .int .i64 b] w (RTakePost w T r R most s f a b) := by
  obtain ⟨i0, z0', hi, hz0, hz1, hz2, hz3⟩ := zparts33
  have HI := Lib.hid hi
  have HI0 := Lib.hid hz0
  have HI1 := Lib.hid hz1
  have HI2 := Lib.hid hz2
  have HI3 := Lib.hid hz3
  obtain ⟨j0, y0', hi', hz0', hz1', hz2', hz3'⟩ := zparts55
  have HJ := Lib.hid hi'
  have HJ0 := Lib.hid hz0'
  have HJ1 := Lib.hid hz1'
  have HJ2 := Lib.hid hz2'
  have HJ3 := Lib.hid hz3'
  have HN := Lib.hid hn
  have HH := Lib.hid h
  obtain ⟨v1, hblk1, hrow1, _⟩ := h.blk
  obtain ⟨n, hnn⟩ : ∃ n, R.length = n := ⟨_, rfl⟩
  rw [hnn] at hrow1 hl
  obtain ⟨va, cR, rfl⟩ := row55_form hrow1
  have hc0 : ∀ w', Below w.heap.size w w' → w'.cell? ⟨r, 0, none⟩ = some (.slice va n cR) := fun w' hb => by simp [World.cell?, (hb.block r (heap_lt hblk1)).trans hblk1]
  have hf0 : ∀ w', Below w.heap.size w w' → w'.frozen? ⟨r, 0, none⟩ = false := fun w' hb => by simp [World.frozen?, (hb.block r (heap_lt hblk1)).trans hblk1]
  have HC0 := Lib.hid hc0
  have HF0 := Lib.hid hf0
  have HRC := Lib.hid (row55_cells hrow1 hnn)
  have HNN := Lib.hid hnn
  have HRL := Lib.hid (heap_lt hblk1)
  have c0 := hc0 _ (Below.refl _ _)
  clear hi hz0 hz1 hz2 hz3 hi' hz0' hz1' hz2' hz3' h hn hblk1 hrow1 hnn hc0 hf0
  go_enter Try.func47, Try.ntmps47
  go_wp2_with fail
  clear c0
  go_loopw [13, 14, 24] (fun q out i wr => InTake w R s f a b n q out i wr) (fun _ _ i _ => n - (intOf i).toNat)
  case atStart => exact ⟨0, [], Nat.zero_le _, rfl, rfl, rfl, Nat.le_refl _, World.ownsRow_nil _ _ _ _, (fun y hy => nomatch hy), Below.refl _ _⟩
  case round =>
    rename World => wo
    obtain ⟨k, Ro, hkn, rfl, rfl, hmap, hrol, hout, hrows, hbw⟩ := hrel
    have HMAP := Lib.hid hmap
    have HROL := Lib.hid hrol
    have HOUT := Lib.hid hout
    have HROWS := Lib.hid hrows
    have HBW := Lib.hid hbw
    have c0 := HC0.out _ hbw
    have f0 := HF0.out _ hbw
    have hrl : r < wo.heap.size := Nat.lt_of_lt_of_le HRL.out hbw.size
    obtain ⟨q, hq⟩ : ∃ q, gone s f a b (R.take k) = q := ⟨_, rfl⟩
    have hq9 : q ≤ 1000000000000 := by
      rw [← hq]
      have h1 := gone_le s f a b (R.take k)
      have h2 := rtot_le R k
      have h3 := HN.out
      omega
    rw [hq]
    have HQ := Lib.hid hq
    clear hmap hrol hout hrows hbw hq
    by_cases hlt : k < n
    · obtain ⟨x, hx⟩ : ∃ x, R[k]? = some x := ⟨_, List.getElem?_eq_getElem (by rw [HNN.out]; exact hlt)⟩
      obtain ⟨g, rfl, hc⟩ := HRC.out k x hx
      obtain ⟨q0, q1, q2⟩ := hc _ HBW.out
      have hxm := List.mem_of_getElem? hx
      have HX := Lib.hid hx
      have HXM := Lib.hid hxm
      obtain ⟨l, hL⟩ : ∃ l, x.l = l := ⟨_, rfl⟩
      obtain ⟨xn, hxn⟩ : ∃ m, l.length = m := ⟨_, rfl⟩
      have hrowx := HH.out.col x hxm
      rw [hL, hxn] at hrowx
      obtain ⟨xa, xc, hxv⟩ := row_form hrowx
      rw [hxv] at hrowx q2
      have HXV := Lib.hid hxv
      have HL := Lib.hid hL
      have HXN := Lib.hid hxn
      have HROWX := Lib.hid hrowx
      have hqx : q + xn ≤ 1000000000000 := by
        have h1 := rtot_take R k x hx
        have h2 := rtot_le R (k + 1)
        have h3 := HN.out
        have h4 := gone_le s f a b (R.take k)
        have h5 := HQ.out
        have h6 : x.l.length = xn := by rw [hL, hxn]
        omega
      have hgl : g < wo.heap.size := World.block_lt_of_cell? wo _ q0
      obtain ⟨se, hse⟩ : ∃ z, x.se = z := ⟨_, rfl⟩
      obtain ⟨fi, hfi⟩ : ∃ z, x.fi = z := ⟨_, rfl⟩
      rw [hse] at q0
      rw [hfi] at q1
      have HSE := Lib.hid hse
      have HFI := Lib.hid hfi
      have hk1 : (wo.alloc (.cells #[.string se, .string fi, .slice xa xn xc] 55)).heap[wo.heap.size]? = some (.cells #[.string se, .string fi, .slice xa xn xc] 55 (0, 0)) := heap_alloc_new wo _
      have HK1 := Lib.hid hk1
      clear hx hc hxm hL hxn hrowx hxv hse hfi hk1
      cases b2 : (se.toList == s.toList) with
      | false =>
        have HTL := Lib.hid (show takeL s f a b x = l by unfold takeL eqB; rw [HSE.out, b2, HL.out]; rfl)
        have w1b := (Below.refl wo.heap.size wo).alloc (Nat.le_refl _) (.cells #[.string se, .string fi, .slice xa xn xc] 55)
        by_cases hz : 0 < xn
        · obtain ⟨on, hon⟩ : ∃ m, Ro.length = m := ⟨_, rfl⟩
          have HON := Lib.hid (show on ≤ k by rw [← hon]; exact HROL.out)
          have hout2 := row55_later (row55_later HOUT.out w1b) ((Below.refl _ _).alloc (Nat.le_refl _) (.cells #[.string se, .string fi, .slice xa xn xc] 55))
          rw [hon] at hout2
          have HOUTP := Lib.hid hout2
          have HSRCP := Lib.hid (SrcN.of_block (size := 3) (m := 1) (heap_alloc_new (wo.alloc (.cells #[.string se, .string fi, .slice xa xn xc] 55)) (.cells #[.string se, .string fi, .slice xa xn xc] 55)) rfl (by simp [Value.oneCell']) 1)
          simp only [World.size_alloc] at HSRCP
          have hbp := ((Below.refl wo.heap.size wo).alloc (Nat.le_refl _) (.cells #[.string se, .string fi, .slice xa xn xc] 55)).alloc (by simp) (.cells #[.string se, .string fi, .slice xa xn xc] 55)
          have HBP := Lib.hid (HBW.out.trans (hbp.mono HBW.out.size))
          have HRP := Lib.hid (HROWS.out.later hbp)
          have HONE := Lib.hid hon
          clear w1b hout2 hbp hon
          go_wp2_with (at_builtin; go_must (refine wpList_append_srcN rfl _ _ 46 rfl w.heap.size 55 j0 y0' 3 56 Try.underlying46 HJ.out HJ0.out HJ1.out HJ2.out HJ3.out (by omega) _ on _ rfl HOUTP.out _ 1 _ rfl HSRCP.out (by unfold maxLen; have := HON.out; omega) (by have := HON.out; omega) (by have := HBP.out.size; omega) ?_); intro v9 w9 hr9 hg9 hat9; have HR9 := Lib.hid hr9; have HG9 := Lib.hid hg9; clear hr9 hg9 hat9)
          go_roundw
          case rel =>
            refine ⟨k + 1, Ro ++ [⟨se, fi, .slice xa xn xc, l⟩], by omega, by go_num, ?_, ?_, ?_, ?_, fun y hy => ?_, HBP.out.grown HG9.out HBP.out.size (fun b hb => (HOUTP.out.lt b hb).1)⟩
            · rw [gone_snoc HX.out, HQ.out, HTL.out, HL.out, Nat.sub_self, Nat.add_zero]
            · rw [takeP_snoc HX.out, HTL.out, if_neg (by rw [HXN.out]; omega), List.map_append, HMAP.out, HSE.out, HFI.out]; rfl
            · rw [List.length_append, HONE.out]; have := HON.out; simp; omega
            · rw [rcC_append, List.length_append, HONE.out]; exact HR9.out
            · rcases List.mem_append.1 hy with hy | hy
              · exact HRP.out.same (fun g' n' u xs hu hg => HG9.out.block g' (hu.lt g' hg).2 (fun e => rows_apart hu HOUTP.out hg e.symm)) y hy
              · have hy' := List.mem_singleton.1 hy
                refine .inl ?_
                have : y = x := by rw [hy', ← HSE.out, ← HFI.out, ← HXV.out, ← HL.out]
                rw [this]; exact HXM.out
          case measure => simp [intOf]; omega
        · have HOUT1 := Lib.hid (row55_later HOUT.out w1b)
          have HROWS1 := Lib.hid (HROWS.out.later w1b)
          have HBW1 := Lib.hid (HBW.out.trans (w1b.mono HBW.out.size))
          clear w1b
          go_wp2_with fail
          go_roundw
          case rel =>
            refine ⟨k + 1, Ro, by omega, by go_num, ?_, ?_, by have := HROL.out; omega, HOUT1.out, HROWS1.out, HBW1.out⟩
            · rw [gone_snoc HX.out, HQ.out, HTL.out, HL.out, Nat.sub_self, Nat.add_zero]
            · rw [takeP_snoc HX.out, HTL.out, if_pos (by rw [HXN.out]; omega), List.append_nil, HMAP.out]
          case measure => simp [intOf]; omega
      | true =>
        cases b4 : (fi.toList == f.toList) with
        | false =>
          have HTL := Lib.hid (show takeL s f a b x = l by unfold takeL eqB; rw [HFI.out, b4, Bool.and_false, HL.out]; rfl)
          have w1b := (Below.refl wo.heap.size wo).alloc (Nat.le_refl _) (.cells #[.string se, .string fi, .slice xa xn xc] 55)
          by_cases hz : 0 < xn
          · obtain ⟨on, hon⟩ : ∃ m, Ro.length = m := ⟨_, rfl⟩
            have HON := Lib.hid (show on ≤ k by rw [← hon]; exact HROL.out)
            have hout2 := row55_later (row55_later HOUT.out w1b) ((Below.refl _ _).alloc (Nat.le_refl _) (.cells #[.string se, .string fi, .slice xa xn xc] 55))
            rw [hon] at hout2
            have HOUTP := Lib.hid hout2
            have HSRCP := Lib.hid (SrcN.of_block (size := 3) (m := 1) (heap_alloc_new (wo.alloc (.cells #[.string se, .string fi, .slice xa xn xc] 55)) (.cells #[.string se, .string fi, .slice xa xn xc] 55)) rfl (by simp [Value.oneCell']) 1)
            simp only [World.size_alloc] at HSRCP
            have hbp := ((Below.refl wo.heap.size wo).alloc (Nat.le_refl _) (.cells #[.string se, .string fi, .slice xa xn xc] 55)).alloc (by simp) (.cells #[.string se, .string fi, .slice xa xn xc] 55)
            have HBP := Lib.hid (HBW.out.trans (hbp.mono HBW.out.size))
            have HRP := Lib.hid (HROWS.out.later hbp)
            have HONE := Lib.hid hon
            clear w1b hout2 hbp hon
            go_wp2_with (at_builtin; go_must (refine wpList_append_srcN rfl _ _ 46 rfl w.heap.size 55 j0 y0' 3 56 Try.underlying46 HJ.out HJ0.out HJ1.out HJ2.out HJ3.out (by omega) _ on _ rfl HOUTP.out _ 1 _ rfl HSRCP.out (by unfold maxLen; have := HON.out; omega) (by have := HON.out; omega) (by have := HBP.out.size; omega) ?_); intro v9 w9 hr9 hg9 hat9; have HR9 := Lib.hid hr9; have HG9 := Lib.hid hg9; clear hr9 hg9 hat9)
            go_roundw
            case rel =>
              refine ⟨k + 1, Ro ++ [⟨se, fi, .slice xa xn xc, l⟩], by omega, by go_num, ?_, ?_, ?_, ?_, fun y hy => ?_, HBP.out.grown HG9.out HBP.out.size (fun b hb => (HOUTP.out.lt b hb).1)⟩
              · rw [gone_snoc HX.out, HQ.out, HTL.out, HL.out, Nat.sub_self, Nat.add_zero]
              · rw [takeP_snoc HX.out, HTL.out, if_neg (by rw [HXN.out]; omega), List.map_append, HMAP.out, HSE.out, HFI.out]; rfl
              · rw [List.length_append, HONE.out]; have := HON.out; simp; omega
              · rw [rcC_append, List.length_append, HONE.out]; exact HR9.out
              · rcases List.mem_append.1 hy with hy | hy
                · exact HRP.out.same (fun g' n' u xs hu hg => HG9.out.block g' (hu.lt g' hg).2 (fun e => rows_apart hu HOUTP.out hg e.symm)) y hy
                · have hy' := List.mem_singleton.1 hy
                  refine .inl ?_
                  have : y = x := by rw [hy', ← HSE.out, ← HFI.out, ← HXV.out, ← HL.out]
                  rw [this]; exact HXM.out
            case measure => simp [intOf]; omega
          · have HOUT1 := Lib.hid (row55_later HOUT.out w1b)
            have HROWS1 := Lib.hid (HROWS.out.later w1b)
            have HBW1 := Lib.hid (HBW.out.trans (w1b.mono HBW.out.size))
            clear w1b
            go_wp2_with fail
            go_roundw
            case rel =>
              refine ⟨k + 1, Ro, by omega, by go_num, ?_, ?_, by have := HROL.out; omega, HOUT1.out, HROWS1.out, HBW1.out⟩
              · rw [gone_snoc HX.out, HQ.out, HTL.out, HL.out, Nat.sub_self, Nat.add_zero]
              · rw [takeP_snoc HX.out, HTL.out, if_pos (by rw [HXN.out]; omega), List.append_nil, HMAP.out]
            case measure => simp [intOf]; omega
        | true =>
          have HTL := Lib.hid (show takeL s f a b x = l.filter (keep a b) by unfold takeL eqB; rw [HSE.out, HFI.out, b2, b4, HL.out]; rfl)
          have hbw1 := (Below.refl wo.heap.size wo).alloc (Nat.le_refl _) (.cells #[.string se, .string fi, .slice xa xn xc] 55)
          have hk1 := HK1.out
          have hs1 : (wo.alloc (.cells #[.string se, .string fi, .slice xa xn xc] 55)).heap.size = wo.heap.size + 1 := by simp
          obtain ⟨w1, hw1⟩ : ∃ w1, wo.alloc (.cells #[.string se, .string fi, .slice xa xn xc] 55) = w1 := ⟨_, rfl⟩
          obtain ⟨cb, hcb⟩ : ∃ cb, wo.heap.size = cb := ⟨_, rfl⟩
          rw [hw1] at hbw1 hk1 hs1
          rw [hcb] at hk1 hs1
          have HBW1 := Lib.hid (HBW.out.trans (hbw1.mono HBW.out.size))
          have HBWR := Lib.hid hbw1
          have HS1 := Lib.hid hs1
          have HCB := Lib.hid hcb
          have HOUT1 := Lib.hid (row55_later HOUT.out hbw1)
          have HROWS1 := Lib.hid (HROWS.out.later hbw1)
          have hcc : ∀ w', Below w1.heap.size w1 w' → w'.heap[cb]? = some (.cells #[.string se, .string fi, .slice xa xn xc] 55 (0, 0)) := fun w' hb => (hb.block cb (by omega)).trans hk1
          have HCC := Lib.hid hcc
          have k0 : w1.cell? ⟨cb, 0, none⟩ = some (.string se) := by simp [World.cell?, hk1]
          have k1 : w1.cell? ⟨cb, 1, none⟩ = some (.string fi) := by simp [World.cell?, hk1]
          have k2 : w1.cell? ⟨cb, 2, none⟩ = some (.slice xa xn xc) := by simp [World.cell?, hk1]
          have HPC := Lib.hid (row_cells HROWX.out HXN.out)
          clear hbw1 hk1 hs1 hcc
          go_wp2_with fail
          clear hw1 hcb k0 k1 k2 q0 q1 q2 c0 f0
          go_loopw [13, 17, 50] (fun qv lv j wi => InKeep w1 l a b xn q qv lv j wi) (fun _ _ j _ => xn - (intOf j).toNat)
          case atStart => exact ⟨0, 0, Nat.zero_le _, rfl, rfl, rfl, World.ownsRow_nil _ _ _ _, Below.refl _ _⟩
          case round =>
            obtain ⟨m, gg, hmn, rfl, rfl, hgg, hlv, hbi⟩ := hrel
            have HLV := Lib.hid hlv
            have HBI := Lib.hid hbi
            have HGG := Lib.hid hgg
            have hgm : gg ≤ m := by omega
            have hcc := HCC.out _ hbi
            have k0 : wr.cell? ⟨cb, 0, none⟩ = some (.string se) := by simp [World.cell?, hcc]
            have k1 : wr.cell? ⟨cb, 1, none⟩ = some (.string fi) := by simp [World.cell?, hcc]
            have k2 : wr.cell? ⟨cb, 2, none⟩ = some (.slice xa xn xc) := by simp [World.cell?, hcc]
            have kf : wr.frozen? ⟨cb, 2, none⟩ = false := by simp [World.frozen?, hcc]
            have HCI := Lib.hid hcc
            clear hlv hbi hgg hcc
            by_cases hlt2 : m < xn
            · obtain ⟨p, hp⟩ : ∃ p, l[m]? = some p := ⟨_, List.getElem?_eq_getElem (by rw [HXN.out]; exact hlt2)⟩
              obtain ⟨g', rfl, hc⟩ := HPC.out m p hp
              obtain ⟨r0, r1, r2, r3⟩ := hc wr (HBW1.out.trans (HBI.out.mono HBW1.out.size))
              have HP := Lib.hid (filter_snoc hp (keep a b))
              obtain ⟨fl, hfl⟩ : ∃ fl, (l.take m).filter (keep a b) = fl := ⟨_, rfl⟩
              rw [hfl] at HLV HP HGG
              obtain ⟨fn, hfn⟩ : ∃ fn, fl.length = fn := ⟨_, rfl⟩
              rw [hfn] at HLV HGG
              have hfm : gg + fn = m := HGG.out
              have HFN := Lib.hid hfn
              have hfn9 : fn ≤ 1000000000000 := by omega
              have HFM := Lib.hid hfm
              clear hc hp hfl hfn hfm
              by_cases t1 : a ≤ p.t
              · by_cases t2 : p.t ≤ b
                · have HIN := Lib.hid (keep_no t1 t2)
                  go_wp2_with fail
                  go_roundw
                  case rel =>
                    refine ⟨m + 1, gg + 1, by omega, by go_num, by go_num, ?_, ?_, HBI.out⟩
                    · rw [HP.out, HIN.out]; simp only [Bool.false_eq_true, if_false, List.append_nil]; rw [HFN.out]; have := HFM.out; omega
                    · rw [HP.out, HIN.out]; simp only [Bool.false_eq_true, if_false, List.append_nil]; rw [HFN.out]; exact HLV.out
                  case measure => simp [intOf]; omega
                · have HIN := Lib.hid (keep_hi (a := a) t2)
                  have HSRC2 := Lib.hid (SrcN.of_block (size := 4) (m := 1) (heap_alloc_new wr (.cells (ptV p).toArray 33)) rfl (ptV_one p) 1)
                  have HLV2 := Lib.hid (row_later HLV.out ((Below.refl wr.heap.size wr).alloc (Nat.le_refl _) (.cells (ptV p).toArray 33)))
                  simp only [ptV] at HSRC2 HLV2
                  go_wp2_with (at_builtin; go_must (refine wpList_append_srcN rfl _ _ 23 rfl w1.heap.size 33 i0 z0' 4 40 Try.underlying23 HI.out HI0.out HI1.out HI2.out HI3.out (by omega) _ fn _ rfl HLV2.out _ 1 _ rfl HSRC2.out (by unfold maxLen; omega) (by omega) (by have := HBI.out.size; simp; omega) ?_); intro v6 w6 hr6 hg6 hat6; have HR6 := Lib.hid hr6; have HG6 := Lib.hid hg6; clear hr6 hg6 hat6)
                  go_roundw
                  case rel =>
                    refine ⟨m + 1, gg, by omega, by go_num, rfl, ?_, ?_, (HBI.out.alloc HBI.out.size _).grown HG6.out (by have := HBI.out.size; simp; omega) (fun b hb => (HLV2.out.lt b hb).1)⟩
                    · rw [HP.out, HIN.out, List.length_append, HFN.out]; have := HFM.out; simp; omega
                    · rw [HP.out, HIN.out]
                      simp only [if_true]
                      rw [ptC_append, List.length_append, HFN.out]
                      exact HR6.out
                  case measure => simp [intOf]; omega
              · have HIN := Lib.hid (keep_lo (b := b) t1)
                have HSRC2 := Lib.hid (SrcN.of_block (size := 4) (m := 1) (heap_alloc_new wr (.cells (ptV p).toArray 33)) rfl (ptV_one p) 1)
                have HLV2 := Lib.hid (row_later HLV.out ((Below.refl wr.heap.size wr).alloc (Nat.le_refl _) (.cells (ptV p).toArray 33)))
                simp only [ptV] at HSRC2 HLV2
                go_wp2_with (at_builtin; go_must (refine wpList_append_srcN rfl _ _ 23 rfl w1.heap.size 33 i0 z0' 4 40 Try.underlying23 HI.out HI0.out HI1.out HI2.out HI3.out (by omega) _ fn _ rfl HLV2.out _ 1 _ rfl HSRC2.out (by unfold maxLen; omega) (by omega) (by have := HBI.out.size; simp; omega) ?_); intro v6 w6 hr6 hg6 hat6; have HR6 := Lib.hid hr6; have HG6 := Lib.hid hg6; clear hr6 hg6 hat6)
                go_roundw
                case rel =>
                  refine ⟨m + 1, gg, by omega, by go_num, rfl, ?_, ?_, (HBI.out.alloc HBI.out.size _).grown HG6.out (by have := HBI.out.size; simp; omega) (fun b hb => (HLV2.out.lt b hb).1)⟩
                  · rw [HP.out, HIN.out, List.length_append, HFN.out]; have := HFM.out; simp; omega
                  · rw [HP.out, HIN.out]
                    simp only [if_true]
                    rw [ptC_append, List.length_append, HFN.out]
                    exact HR6.out
                case measure => simp [intOf]; omega
            · have hm : m = xn := by omega
              have HM := Lib.hid hm
              have htk : l.take m = l := List.take_of_length_le (by rw [HXN.out, hm]; exact Nat.le_refl _)
              rw [htk] at HLV HGG
              obtain ⟨ln, hln⟩ : ∃ z, (l.filter (keep a b)).length = z := ⟨_, rfl⟩
              have hlv := HLV.out
              rw [hln] at hlv HGG
              obtain ⟨la, lc, rfl⟩ := row_form hlv
              have hgl2 : gg + ln = m := HGG.out
              have hs2 := HBI.out.size
              have hset : ∀ z, z ≠ cb → (wr.setCell ⟨cb, 2, none⟩ (.slice la ln lc)).heap[z]? = wr.heap[z]? := fun z hz => RowKit.Below.heap_setCell _ _ _ _ hz
              have hc2 : (wr.setCell ⟨cb, 2, none⟩ (.slice la ln lc)).heap[cb]? = some (.cells #[.string se, .string fi, .slice la ln lc] 55 (0, 0)) := by
                rw [heap_setCell_same wr cb 2 _ 55 _ HCI.out]; rfl
              have hsz2 : (wr.setCell ⟨cb, 2, none⟩ (.slice la ln lc)).heap.size = wr.heap.size := by simp
              have hbw2 : Below w.heap.size w (wr.setCell ⟨cb, 2, none⟩ (.slice la ln lc)) := (HBW1.out.trans (HBI.out.mono HBW1.out.size)).setCell (by have := HBW.out.size; have := HCB.out; show w.heap.size ≤ cb; omega) _
              have hbr2 : Below cb wo (wr.setCell ⟨cb, 2, none⟩ (.slice la ln lc)) := by
                have h1 := HCB.out
                have h2 : Below cb wo wr := by rw [← h1]; exact HBWR.out.trans (HBI.out.mono HBWR.out.size)
                exact h2.setCell (Nat.le_refl _) _
              have hout2 : (wr.setCell ⟨cb, 2, none⟩ (.slice la ln lc)).ownsRow w.heap.size 55 3 u14 Ro.length (rcC Ro) := ownsRow_same HOUT.out fun z hz => hbr2.block z (by rw [← HCB.out]; exact (HOUT.out.lt z hz).2)
              have hrows2 : Rows2 w R Ro (wr.setCell ⟨cb, 2, none⟩ (.slice la ln lc)) := HROWS.out.same fun z _ _ _ hu hz => hbr2.block z (by rw [← HCB.out]; exact (hu.lt z hz).2)
              have hlv2 : (wr.setCell ⟨cb, 2, none⟩ (.slice la ln lc)).ownsRow w1.heap.size 33 4 (.slice la ln lc) ln (ptC (l.filter (keep a b))) := ownsRow_same hlv fun z hz => hset z (fun e => by have := (hlv.lt z hz).1; have := HS1.out; omega)
              obtain ⟨w2, hw2⟩ : ∃ w2, wr.setCell ⟨cb, 2, none⟩ (.slice la ln lc) = w2 := ⟨_, rfl⟩
              rw [hw2] at hset hc2 hsz2 hbw2 hbr2 hout2 hrows2 hlv2
              have z0 : w2.cell? ⟨cb, 0, none⟩ = some (.string se) := by simp [World.cell?, hc2]
              have z1 : w2.cell? ⟨cb, 1, none⟩ = some (.string fi) := by simp [World.cell?, hc2]
              have z2 : w2.cell? ⟨cb, 2, none⟩ = some (.slice la ln lc) := by simp [World.cell?, hc2]
              have HLN := Lib.hid hln
              have HGM := Lib.hid hgl2
              have HLV9 := Lib.hid hlv2
              have HTG : Hid (gone s f a b (R.take (k + 1)) = q + gg) := Lib.hid (by rw [gone_snoc HX.out, HQ.out, HTL.out, HL.out, HXN.out, hln]; have := HM.out; omega)
              have HW1S := Lib.hid (show w.heap.size ≤ w1.heap.size from HBW1.out.size)
              by_cases hz : 0 < ln
              · obtain ⟨on, hon⟩ : ∃ z, Ro.length = z := ⟨_, rfl⟩
                have HON := Lib.hid (show on ≤ k by rw [← hon]; exact HROL.out)
                have hbp := (Below.refl w2.heap.size w2).alloc (Nat.le_refl _) (.cells #[.string se, .string fi, .slice la ln lc] 55)
                have hout3 := row55_later hout2 hbp
                rw [hon] at hout3
                have HOUTP := Lib.hid hout3
                have HSRCP := Lib.hid (SrcN.of_block (size := 3) (m := 1) (heap_alloc_new w2 (.cells #[.string se, .string fi, .slice la ln lc] 55)) rfl (by simp [Value.oneCell']) 1)
                have HBP := Lib.hid (hbw2.trans (hbp.mono hbw2.size))
                have HRP := Lib.hid (hrows2.later hbp)
                have HLVP := Lib.hid (row_later hlv2 hbp)
                have HONE := Lib.hid hon
                clear hm htk hln hlv hgl2 hs2 hset hc2 hsz2 hbw2 hbr2 hout2 hrows2 hlv2 hbp hout3 hon
                go_wp2_with (at_builtin; go_must (refine wpList_append_srcN rfl _ _ 46 rfl w.heap.size 55 j0 y0' 3 56 Try.underlying46 HJ.out HJ0.out HJ1.out HJ2.out HJ3.out (by omega) _ on _ rfl HOUTP.out _ 1 _ rfl HSRCP.out (by unfold maxLen; have := HON.out; omega) (by have := HON.out; omega) (by have := HBP.out.size; omega) ?_); intro v9 w9 hr9 hg9 hat9; have HR9 := Lib.hid hr9; have HG9 := Lib.hid hg9; clear hr9 hg9 hat9)
                go_roundw
                case rel =>
                  refine ⟨k + 1, Ro ++ [⟨se, fi, .slice la ln lc, l.filter (keep a b)⟩], by omega, by go_num, by rw [HTG.out]; go_num, ?_, ?_, ?_, fun y hy => ?_, HBP.out.grown HG9.out HBP.out.size (fun b hb => (HOUTP.out.lt b hb).1)⟩
                  · rw [takeP_snoc HX.out, HTL.out, if_neg (by rw [HLN.out]; omega), List.map_append, HMAP.out, HSE.out, HFI.out]; rfl
                  · rw [List.length_append, HONE.out]; have := HON.out; simp; omega
                  · rw [rcC_append, List.length_append, HONE.out]; exact HR9.out
                  · have hap : ∀ (z n' : Nat) (u : Value) (xs : List Value) (b' : Nat), (w2.alloc (.cells #[.string se, .string fi, .slice la ln lc] 55)).ownsRow b' 33 4 u n' xs → u.ownBlock = some z → w9.heap[z]? = (w2.alloc (.cells #[.string se, .string fi, .slice la ln lc] 55)).heap[z]? := fun z n' u xs b' hu hg => HG9.out.block z (hu.lt z hg).2 (fun e => rows_apart hu HOUTP.out hg e.symm)
                    rcases List.mem_append.1 hy with hy | hy
                    · exact HRP.out.same (fun g' n' u xs hu hg => hap g' n' u xs 0 hu hg) y hy
                    · have hy' := List.mem_singleton.1 hy
                      refine .inr ⟨w1.heap.size, HW1S.out, ?_⟩
                      rw [hy', HLN.out]
                      exact ownsRow_same HLVP.out fun z hz => hap z _ _ _ _ HLVP.out hz
                case measure => simp [intOf]; omega
              · have HOUT2 := Lib.hid hout2
                have HROWS2 := Lib.hid hrows2
                have HBW2 := Lib.hid hbw2
                clear hm htk hln hlv hgl2 hs2 hset hc2 hsz2 hbw2 hbr2 hout2 hrows2 hlv2
                go_wp2_with fail
                go_roundw
                case rel =>
                  refine ⟨k + 1, Ro, by omega, by go_num, by rw [HTG.out], ?_, by have := HROL.out; omega, HOUT2.out, HROWS2.out, HBW2.out⟩
                  rw [takeP_snoc HX.out, HTL.out, if_pos (by rw [HLN.out]; omega), List.append_nil, HMAP.out]
                case measure => simp [intOf]; omega
    · have hk : k = n := by omega
      have HK := Lib.hid hk
      clear hk
      obtain ⟨on, hon⟩ : ∃ m, Ro.length = m := ⟨_, rfl⟩
      have hout2 := HOUT.out
      rw [hon] at hout2
      obtain ⟨oa, oc, rfl⟩ := row55_form hout2
      have HOUT2 := Lib.hid hout2
      have HON := Lib.hid hon
      clear hon hout2
      go_wp2_with fail
      go_ret
      have htk : R.take k = R := List.take_of_length_le (by rw [HNN.out, HK.out]; exact Nat.le_refl _)
      have hmap := HMAP.out
      rw [htk] at hmap
      have hq' := HQ.out
      rw [htk] at hq'
      obtain ⟨h1, h2⟩ := HH.out.newrow HBW.out (v' := .slice oa on oc) (by rw [HON.out]; exact HOUT2.out) (Nat.le_refl _) HROWS.out
      exact ⟨Ro, ret_int (by rw [hq']), h2, h1, hmap⟩
end Go.Proofs.Ytfhdaihladgchaa
