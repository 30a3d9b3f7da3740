/- The document's cache: a point is put, a range deleted. Conditions: what it holds is in its bounds. -/
import Derived.Test.YtfhdaihladgchaaAB
import Derived.Deep.RegionWith
namespace Go.Proofs.Ytfhdaihladgchaa
open Go.RowKit Go.WideMaps Go.Sort
structure Good (P : List Tr) : Prop where
  sorted : Sorted P
  ok : ∀ t ∈ P, t.2.2 ≠ [] ∧ Rises t.2.2
theorem Good.rises {P : List Tr} (h : Good P) (s f : ByteArray) : Rises (ptsP P s f) := by
  unfold ptsP
  cases hx : P.find? (eqP s f) with
  | none => exact List.Pairwise.nil
  | some x => exact (h.ok x (List.mem_of_find?_eq_some hx)).2
theorem Good.len : ∀ {P : List Tr}, Good P → P.length ≤ totP P
  | [], _ => Nat.le_refl _
  | t :: r, h => by
    have h1 := Good.len (P := r) ⟨sorted_tail h.sorted, fun y hy => h.ok y (by simp [hy])⟩
    have h2 : 0 < t.2.2.length := List.length_pos_iff.2 (h.ok t (by simp)).1
    simp only [totP, List.map_cons, List.sum_cons, List.length_cons] at h1 ⊢
    omega
theorem Good.upd {P : List Tr} (h : Good P) (s f : ByteArray) {l : List Pt} (hl : l ≠ [] ∧ Rises l) : Good (upd s f l P) :=
  ⟨upd_sorted h.sorted, fun t ht => by
    rcases upd_mem ht with h1 | ⟨h1, _⟩
    · exact h.ok t h1
    · rw [h1]; exact hl⟩
theorem Good.cut {P : List Tr} (h : Good P) (s f : ByteArray) (a b : Int) : Good (cutP s f a b P) :=
  ⟨cutP_sorted h.sorted, fun t ht => by
    obtain ⟨u, hu, _, _, h3, h4⟩ := cutP_mem ht
    refine ⟨h4, ?_⟩
    rw [h3]
    split
    · exact (h.ok u hu).2.sublist List.filter_sublist
    · exact (h.ok u hu).2⟩
def newP (P : List Tr) (most : Int) (s f : ByteArray) (p : Pt) : List Tr := if putE (ptsP P s f) (totP P) most p = 0 then upd s f (putL (ptsP P s f) p) P else P
def RPutPost (w : World) (T : Nat → Prop) (r : Nat) (R : List RC) (most : Int) (s f : ByteArray) (p : Pt) (e : Ending) (w' : World) : Prop :=
  ∃ R', e = .returned (.int .i64 (putE (ptsP (R.map pc) s f) (totP (R.map pc)) most p)) ∧ Turns T w w' ∧ RefAt w' (With T w w') r R' most ∧ R'.map pc = newP (R.map pc) most s f p
theorem rput_stays {w w' : World} {T : Nat → Prop} {r : Nat} {R : List RC} {most : Int} {s f : ByteArray} {p : Pt} (h : RefAt w T r R most) (hb : Below w.heap.size w w') (n : Int) (hn : putE (ptsP (R.map pc) s f) (totP (R.map pc)) most p = n) (h0 : n ≠ 0) : RPutPost w T r R most s f p (.returned (.int .i64 n)) w' :=
  ⟨R, by rw [hn], Turns.of_below hb, (h.later hb).grow fun _ => .inl, by unfold newP; rw [hn, if_neg h0]⟩
theorem rput_laid {w w1 w' : World} {T : Nat → Prop} {r : Nat} {R : List RC} {most : Int} {s f : ByteArray} {p : Pt} (hg : Good (R.map pc)) (hb : Below w.heap.size w w1) {e : Ending} (hl : LayPost w1 T r R most s f p e w') (hn : putE (ptsP (R.map pc) s f) (totP (R.map pc)) most p = 0) : RPutPost w T r R most s f p (.returned (.int .i64 0)) w' := by
  obtain ⟨R', b, _, ht, hr, h1, h2⟩ := hl
  refine ⟨R', by rw [hn], (Turns.of_below hb).trans ht fun _ h => .inl h, hr.grow fun k hk => ?_, ?_⟩
  · rcases hk with hk | hk
    · exact .inl hk
    · exact .inr ⟨Nat.le_trans hb.size hk.1, hk.2⟩
  · unfold newP
    rw [if_pos hn]
    have hat := at_pts (s := s) (f := f) hg.sorted
    cases hh : hereB R s f with
    | true =>
      obtain ⟨x, v', hx, rfl⟩ := h1 hh
      obtain ⟨y, hy, hye, hu⟩ := at_found (putL (ptsP (R.map pc) s f) p) hh
      rw [hx] at hy
      cases hy
      have hxl : ptsP (R.map pc) s f = x.l := by
        rw [← hat]; unfold atL; rw [hh, hx]; rfl
      have hri : Rises x.l := by rw [← hxl]; exact hg.rises s f
      rw [hu, hxl, List.map_set, putK_putL hri]; rfl
    | false =>
      obtain ⟨v', rfl⟩ := h2 hh
      have hxl : ptsP (R.map pc) s f = [] := by rw [← hat]; exact here_pts hh
      rw [at_not _ hh, hxl, putL_one, List.map_append, List.map_cons, List.map_take, List.map_drop]; rfl
theorem refDelete (w : World) (T : Nat → Prop) (r : Nat) (R : List RC) (most : Int) (s f : ByteArray) (a b : Int) (h : RefAt w T r R most) (hl : R.length ≤ 1000000000000) (hn : rtot R ≤ 1000000000000) :
    Calls Try.prog 28 #[.pointer (some ⟨r, 0, none⟩), .string s, .string f, .int .i64 a, .int .i64 b] w (RTakePost w T r R most s f a b) := by
  have HH := Lib.hid h
  have HN := Lib.hid hn
  clear h hn
  go_enter Try.func28, Try.ntmps28
  go_wp2_with fail
  refine (refTake w T r R most s f a b HH.out hl HN.out).mono ?_
  rintro e w1 ⟨R', rfl, ht, hr, hm⟩
  have HT := Lib.hid ht
  have HR := Lib.hid hr
  have HM := Lib.hid hm
  clear ht hr hm
  go_wp2_with fail
  go_ret
  exact ⟨R', rfl, HT.out, HR.out, HM.out⟩
theorem putE_full {l : List Pt} {size most : Int} {p : Pt} (h1 : formedB p.k p.b p.s = true) (h2 : otherK l p.k = false) (h3 : thereB l p.t = false) (h4 : most ≤ size) : putE l size most p = 7 := by
  unfold putE
  rw [if_neg (by rw [h1]; simp), if_neg (by rw [h2]; simp), if_neg (by rw [h3]; simp), if_pos h4]
theorem putE_new {l : List Pt} {size most : Int} {p : Pt} (h1 : formedB p.k p.b p.s = true) (h2 : otherK l p.k = false) (h3 : thereB l p.t = false) (h4 : ¬ most ≤ size) : putE l size most p = 0 := by
  unfold putE
  rw [if_neg (by rw [h1]; simp), if_neg (by rw [h2]; simp), if_neg (by rw [h3]; simp), if_neg h4]
theorem putE_there {l : List Pt} {size most : Int} {p : Pt} (h1 : formedB p.k p.b p.s = true) (h2 : otherK l p.k = false) (h3 : thereB l p.t = true) : putE l size most p = 0 := by
  unfold putE
  rw [if_neg (by rw [h1]; simp), if_neg (by rw [h2]; simp), if_pos h3]
theorem lay_keep {w4 w6 : World} {T : Nat → Prop} {pb : Nat} {p : Pt} (ht : Turns T w4.drew w6) (hp : w4.heap[pb]? = some (.cells #[.int .i64 p.t, .int .i64 p.k, .int .u64 p.b, .string p.s] 33 (0, 0))) (hn : ¬ T pb) :
    w6.cell? ⟨pb, 0, none⟩ = some (.int .i64 p.t) ∧ w6.cell? ⟨pb, 1, none⟩ = some (.int .i64 p.k) ∧ w6.cell? ⟨pb, 2, none⟩ = some (.int .u64 p.b) ∧ w6.cell? ⟨pb, 3, none⟩ = some (.string p.s) := by
  have h1 := (ht.block pb (heap_lt hp) hn).trans hp
  exact ⟨by simp [World.cell?, h1], by simp [World.cell?, h1], by simp [World.cell?, h1], by simp [World.cell?, h1]⟩
theorem take_d {P : Program} {md : Region.Mode} {ops : Array Oper} {Q : Exit → Act → World → Prop} {S : World → Prop} {i : Nat} {oi : Oper} {v : Value} {fuel : Nat} {listed : Array Bool} {a : Act} {w : World} (d : Option Tmp) (hi : ops[i]? = some oi) (hd : oi.dst = d)
    (hs : Region.noSelect ops = true) (hf : Region.free md ops listed i = true) (hr : (Region.ready md ops listed).contains i = true)
    (hQ : ∀ c a w, Q (.panic c) (a.put oi.dst v) w → Q (.panic c) a w) (hy : YieldsIf P ops S oi v a) (hS : S w)
    (h : wpAnyH P md ops Q S fuel (listed.setIfInBounds i true) (a.put d v) w) : wpAnyH P md ops Q S (fuel + 1) listed a w :=
  wpAnyH_take hi hs hf hr hQ hy hS (hd ▸ h)
set_option maxHeartbeats 4000000 in
set_option maxRecDepth 100000 in
theorem refPut0 (w : World) (T : Nat → Prop) (r : Nat) (R : List RC) (most : Int) (s f : ByteArray) (p : Pt) (h : RefAt w T r R most) (hg : Good (R.map pc)) (hpb : 0 ≤ p.b ∧ p.b < 2 ^ 64) (hps : p.s.size ≤ maxLen) (hn : rtot R ≤ 1000000000000) (hT : ∀ k, T k → k < w.heap.size) :
    Calls Try.prog 27 #[.pointer (some ⟨r, 0, none⟩), .string s, .string f, .agg #[.int .i64 p.t, .int .i64 p.k, .int .u64 p.b, .string p.s]] w (RPutPost w T r R most s f p) := by
  have HTL := Lib.hid hT
  clear hT
  have hl : R.length ≤ 1000000000000 := by have := hg.len; rw [← rtot_pc] at this; simp at this; omega
  have hat := at_pts (s := s) (f := f) hg.sorted
  have hri := hg.rises s f
  have hcnt := there_count (t := p.t) hri
  rw [← hat] at hri hcnt
  have hatn : (atL R s f).length ≤ 1000000000000 := by
    unfold atL
    cases hh : hereB R s f with
    | false => exact Nat.zero_le _
    | true =>
      obtain ⟨x, hx, _⟩ := here_at hh
      have h1 := rtot_take R _ x hx
      have h2 := rtot_le R (atI R s f + 1)
      rw [hx]; show x.l.length ≤ _; omega
  have HATN := Lib.hid hatn
  have HCN := Lib.hid hcnt
  have HAT := Lib.hid hat
  have HG := Lib.hid hg
  have HN := Lib.hid hn
  have HL := Lib.hid hl
  have HPB := Lib.hid hpb
  have HPS := Lib.hid hps
  have hb0 := (Below.refl w.heap.size w).alloc (Nat.le_refl _) (.cells #[.int .i64 p.t, .int .i64 p.k, .int .u64 p.b, .string p.s] 33)
  have hp0 : (w.alloc (.cells #[.int .i64 p.t, .int .i64 p.k, .int .u64 p.b, .string p.s] 33)).heap[w.heap.size]? = some (.cells #[.int .i64 p.t, .int .i64 p.k, .int .u64 p.b, .string p.s] 33 (0, 0)) := heap_alloc_new w _
  obtain ⟨w0, hw0⟩ : ∃ w0, w.alloc (.cells #[.int .i64 p.t, .int .i64 p.k, .int .u64 p.b, .string p.s] 33) = w0 := ⟨_, rfl⟩
  obtain ⟨pb, hpb'⟩ : ∃ pb, w.heap.size = pb := ⟨_, rfl⟩
  rw [hw0] at hb0 hp0
  rw [hpb'] at hp0
  have hr0 := h.later hb0
  obtain ⟨v1, hblk, hrow, _⟩ := hr0.blk
  have hS : ∀ w', Below w0.heap.size w0 w' → w'.cell? ⟨pb, 0, none⟩ = some (.int .i64 p.t) ∧ w'.cell? ⟨pb, 1, none⟩ = some (.int .i64 p.k) ∧ w'.cell? ⟨pb, 2, none⟩ = some (.int .u64 p.b) ∧ w'.cell? ⟨pb, 3, none⟩ = some (.string p.s) ∧ w'.cell? ⟨r, 1, none⟩ = some (.int .i64 most) := fun w' hb => by
    have h1 := (hb.block pb (heap_lt hp0)).trans hp0
    have h2 := (hb.block r (heap_lt hblk)).trans hblk
    exact ⟨by simp [World.cell?, h1], by simp [World.cell?, h1], by simp [World.cell?, h1], by simp [World.cell?, h1], by simp [World.cell?, h2]⟩
  have hC : ∀ w', Below w0.heap.size w0 w' → w'.cell? ⟨r, 0, none⟩ = some v1 := fun w' hb => by
    have h2 := (hb.block r (heap_lt hblk)).trans hblk
    simp [World.cell?, h2]
  have HS := Lib.hid hS
  have HC := Lib.hid hC
  have HR0 := Lib.hid hr0
  have HB0 := Lib.hid hb0
  have HH := Lib.hid h
  have HROW := Lib.hid hrow
  have HP0 := Lib.hid hp0
  have HPBN := Lib.hid hpb'
  obtain ⟨p0, p1, p2, p3, r1⟩ := hS _ (Below.refl _ _)
  clear hatn hcnt hat hg hn hl hpb hps hb0 hp0 hr0 hblk hrow hS hC h
  cases hfm : formedB p.k p.b p.s with
  | false =>
    have HFM := Lib.hid hfm
    clear hfm
    go_enter Try.func27, Try.ntmps27
    go_wp2_with fail
    refine (refFormed p.k p.b p.s w0 HPB.out HPS.out).mono ?_
    rw [HFM.out]
    rintro e w1 ⟨rfl, hb1⟩
    have HB1 := Lib.hid (HB0.out.trans (hb1.mono HB0.out.size))
    clear hb1
    go_wp2_with fail
    go_ret
    exact rput_stays HH.out HB1.out 1 (by unfold putE; rw [if_pos HFM.out]) (by decide)
  | true =>
    have HFM := Lib.hid hfm
    clear hfm
    cases hh : hereB R s f with
    | false =>
      have HHB := Lib.hid hh
      have hl0 := here_pts hh
      have HL0 := Lib.hid hl0
      clear hh hl0
      go_enter Try.func27, Try.ntmps27
      go_wp2_with fail
      refine (refFormed p.k p.b p.s w0 HPB.out HPS.out).mono ?_
      rw [HFM.out]
      rintro e w1 ⟨rfl, hb1⟩
      have HB1 := Lib.hid hb1
      clear hb1 p0 p1 p2 p3 r1
      go_wp2_with fail
      refine (refAt w1 T r R most s f (HR0.out.later HB1.out) HL.out).mono ?_
      rw [HHB.out]
      rintro e w2 ⟨rfl, hb2⟩
      have HB2 := Lib.hid (HB1.out.trans (hb2.mono HB1.out.size))
      obtain ⟨p0, p1, p2, p3, r1⟩ := HS.out _ HB2.out
      clear hb2 hw0 hpb'
      go_wp2_with fail
      go_quiet (fail)
      have HB3 := Lib.hid (below_drewN HB2.out nq)
      obtain ⟨p0, p1, p2, p3, r1⟩ := HS.out _ HB3.out
      obtain ⟨w3, hw3⟩ : ∃ w3, w2.drewN nq = w3 := ⟨_, rfl⟩
      rw [hw3] at HB3 p0 p1 p2 p3 r1 ⊢
      clear hw3
      have HOK : Hid (otherK (ptsP (R.map pc) s f) p.k = false) := Lib.hid (by rw [← HAT.out, HL0.out]; rfl)
      have HTH : Hid (thereB (ptsP (R.map pc) s f) p.t = false) := Lib.hid (by rw [← HAT.out, HL0.out]; simp [thereB, loI, hiI])
      have HC0 : Hid (((atL R s f).filter (inR p.t p.t)).length = 0) := Lib.hid (by rw [HL0.out]; rfl)
      have HRD := Lib.hid (show RefAt w3.drew T r R most from (HR0.out.later HB3.out).same2 fun _ _ _ => rfl)
      obtain ⟨tt, htt⟩ : ∃ n, rtot R = n := ⟨_, rfl⟩
      have HTT := Lib.hid htt
      have htt9 : tt ≤ 1000000000000 := by rw [← htt]; exact HN.out
      clear htt
      go_wp2_with fail
      by_cases hfull : most ≤ (tt : Int)
      · have HFULL := Lib.hid hfull
        go_region_held3 (fun w' => w'.cell? ⟨pb, 0, none⟩ = some (.int .i64 p.t) ∧ w'.cell? ⟨pb, 1, none⟩ = some (.int .i64 p.k) ∧ w'.cell? ⟨pb, 2, none⟩ = some (.int .u64 p.b) ∧ w'.cell? ⟨pb, 3, none⟩ = some (.string p.s) ∧ w'.cell? ⟨r, 1, none⟩ = some (.int .i64 most)) (first | exact HS.out _ HB4.out | exact HS.out _ (HB3.out.trans (((Below.refl _ _).drew).mono HB3.out.size)) | go_keep)
          (first
            | (go_at_call 17; refine (refGet _ T r R most s f p.t p.t HRD.out HL.out HATN.out).mono ?_; rintro e w4 ⟨gv, gb, rfl, _, hrow4, hb4⟩; rw [HC0.out] at hrow4; obtain ⟨ga, gc, rfl⟩ := row_form hrow4; have HB4 := Lib.hid (HB3.out.trans ((((Below.refl w3.heap.size w3).drew).trans hb4).mono HB3.out.size)); clear hrow4 hb4)
            | (go_at_call 16; refine (refSize _ T r R most (HR0.out.later HB4.out) HN.out HL.out).mono ?_; rw [HTT.out]; rintro e w5 ⟨rfl, rfl⟩))
        all_goals
          go_wp2_with fail
          go_ret
          exact rput_stays HH.out (HB0.out.trans (HB4.out.mono HB0.out.size)) 7 (putE_full HFM.out HOK.out HTH.out (by rw [← rtot_pc, HTT.out]; have := HFULL.out; omega)) (by decide)
      · have HFULL := Lib.hid hfull
        go_region_held3 (fun w' => w'.cell? ⟨pb, 0, none⟩ = some (.int .i64 p.t) ∧ w'.cell? ⟨pb, 1, none⟩ = some (.int .i64 p.k) ∧ w'.cell? ⟨pb, 2, none⟩ = some (.int .u64 p.b) ∧ w'.cell? ⟨pb, 3, none⟩ = some (.string p.s) ∧ w'.cell? ⟨r, 1, none⟩ = some (.int .i64 most)) (first | exact HS.out _ HB4.out | exact HS.out _ (HB3.out.trans (((Below.refl _ _).drew).mono HB3.out.size)) | go_keep)
          (first
            | (go_at_call 17; refine (refGet _ T r R most s f p.t p.t HRD.out HL.out HATN.out).mono ?_; rintro e w4 ⟨gv, gb, rfl, _, hrow4, hb4⟩; rw [HC0.out] at hrow4; obtain ⟨ga, gc, rfl⟩ := row_form hrow4; have HB4 := Lib.hid (HB3.out.trans ((((Below.refl w3.heap.size w3).drew).trans hb4).mono HB3.out.size)); clear hrow4 hb4)
            | (go_at_call 16; refine (refSize _ T r R most (HR0.out.later HB4.out) HN.out HL.out).mono ?_; rw [HTT.out]; rintro e w5 ⟨rfl, rfl⟩))
        all_goals
          go_wp2_with fail
          have HB4a := HB4
          obtain ⟨p0, p1, p2, p3, r1⟩ := HS.out _ HB4a.out
          have HRL := Lib.hid (show RefAt w4.drew T r R most from (HR0.out.later HB4a.out).same2 fun _ _ _ => rfl)
          have HPL := Lib.hid ((HB4a.out.block pb (heap_lt HP0.out)).trans HP0.out)
          go_region_held3 (fun w' => w'.cell? ⟨pb, 0, none⟩ = some (.int .i64 p.t) ∧ w'.cell? ⟨pb, 1, none⟩ = some (.int .i64 p.k) ∧ w'.cell? ⟨pb, 2, none⟩ = some (.int .u64 p.b) ∧ w'.cell? ⟨pb, 3, none⟩ = some (.string p.s)) (first | exact HS6.out | go_keep)
            (first
              | (go_at_call 46; refine (refLay _ T r R most s f p HRL.out HL.out HN.out).mono ?_; rintro e w6 ⟨R', lb, rfl, ht6, hr6, h16, h26⟩; have HS6 := Lib.hid (lay_keep ht6 HPL.out (fun e => by have := HTL.out _ e; have := HPBN.out; omega)); have HLAY := Lib.hid (show LayPost w4.drew T r R most s f p (.returned (.bool lb)) w6 from ⟨R', lb, rfl, ht6, hr6, h16, h26⟩); clear ht6 hr6 h16 h26))
          all_goals
            go_wp2_with fail
            go_ret
            exact rput_laid HG.out (HB0.out.trans (HB4a.out.drew.mono HB0.out.size)) HLAY.out (putE_new HFM.out HOK.out HTH.out (by rw [← rtot_pc, HTT.out]; have := HFULL.out; omega))
    | true =>
      have HHB := Lib.hid hh
      obtain ⟨x, hx, _⟩ := here_at hh
      have hxl : atL R s f = x.l := by unfold atL; rw [hh, hx]; rfl
      obtain ⟨at_, hat⟩ : ∃ n, atI R s f = n := ⟨_, rfl⟩
      rw [hat] at hx
      have hxne := (HG.out.ok (pc x) (List.mem_map.2 ⟨x, List.mem_of_getElem? hx, rfl⟩)).1
      obtain ⟨q, rest, hq⟩ : ∃ q rest, x.l = q :: rest := by
        cases hxx : x.l with
        | nil => exact absurd hxx hxne
        | cons q r => exact ⟨q, r, rfl⟩
      have hok : otherK (ptsP (R.map pc) s f) p.k = decide (q.k ≠ p.k) := by rw [← HAT.out, hxl, hq]; rfl
      obtain ⟨nn, hnn⟩ : ∃ n, R.length = n := ⟨_, rfl⟩
      have hatn : at_ < nn := by rw [← hnn]; exact (List.getElem?_eq_some_iff.1 hx).1
      have hrow := HROW.out
      rw [hnn] at hrow
      obtain ⟨va, cc, rfl⟩ := row55_form hrow
      obtain ⟨g, rfl, hc⟩ := row55_cells hrow hnn at_ x hx
      have hrowx := HR0.out.col x (List.mem_of_getElem? hx)
      obtain ⟨xn, hxn⟩ : ∃ n, x.l.length = n := ⟨_, rfl⟩
      rw [hxn] at hrowx
      obtain ⟨xa, xc, hxv⟩ := row_form hrowx
      rw [hxv] at hrowx
      obtain ⟨g', rfl, hcx⟩ := row_cells hrowx hxn 0 q (by rw [hq]; rfl)
      have hxn0 : 0 < xn := by rw [← hxn, hq]; simp
      have hread : ∀ w', Below w0.heap.size w0 w' → w'.cell? ⟨g, at_ * 3 + 2, none⟩ = some (.slice (some ⟨g', 0, none⟩) xn xc) ∧ w'.cell? ⟨g', 1, none⟩ = some (.int .i64 q.k) := fun w' hb => by
        have h1 := (hc w' hb).2.2
        rw [hxv] at h1
        have h2 := (hcx w' hb).2.1
        rw [Nat.zero_mul, Nat.zero_add] at h2
        exact ⟨h1, h2⟩
      have HREAD := Lib.hid hread
      have HATI := Lib.hid hat
      have HOKQ := Lib.hid hok
      clear hh hx hxl hat hxne hq hok hnn hrow hc hrowx hxn hxv hcx hread
      by_cases hkk : q.k = p.k
      · have HOK : Hid (otherK (ptsP (R.map pc) s f) p.k = false) := Lib.hid (by rw [HOKQ.out]; simp [hkk])
        have hkb : (q.k != p.k) = false := by simp [hkk]
        have HKB := Lib.hid hkb
        clear hkk hkb
        cases hth : thereB (ptsP (R.map pc) s f) p.t with
        | false =>
          have HTH := Lib.hid hth
          have HC0 : Hid (((atL R s f).filter (inR p.t p.t)).length = 0) := Lib.hid (HCN.out.2 (by rw [HAT.out]; exact hth))
          clear hth
          go_enter Try.func27, Try.ntmps27
          go_wp2_with fail
          refine (refFormed p.k p.b p.s w0 HPB.out HPS.out).mono ?_
          rw [HFM.out]
          rintro e w1 ⟨rfl, hb1⟩
          have HB1 := Lib.hid hb1
          clear hb1 p0 p1 p2 p3 r1
          go_wp2_with fail
          refine (refAt w1 T r R most s f (HR0.out.later HB1.out) HL.out).mono ?_
          rw [HHB.out]
          rintro e w2 ⟨rfl, hb2⟩
          have HB2 := Lib.hid (HB1.out.trans (hb2.mono HB1.out.size))
          obtain ⟨p0, p1, p2, p3, r1⟩ := HS.out _ HB2.out
          clear hb2 hw0 hpb'
          rw [HATI.out]
          have hkb := HKB.out
          have c0 := HC.out _ HB2.out
          obtain ⟨y2, y3⟩ := HREAD.out _ HB2.out
          go_wp2_with fail
          go_quiet (fail)
          clear hkb c0 y2 y3
          have HB3 := Lib.hid (below_drewN HB2.out nq)
          obtain ⟨p0, p1, p2, p3, r1⟩ := HS.out _ HB3.out
          obtain ⟨w3, hw3⟩ : ∃ w3, w2.drewN nq = w3 := ⟨_, rfl⟩
          rw [hw3] at HB3 p0 p1 p2 p3 r1 ⊢
          clear hw3
          have HRD := Lib.hid (show RefAt w3.drew T r R most from (HR0.out.later HB3.out).same2 fun _ _ _ => rfl)
          obtain ⟨tt, htt⟩ : ∃ n, rtot R = n := ⟨_, rfl⟩
          have HTT := Lib.hid htt
          have htt9 : tt ≤ 1000000000000 := by rw [← htt]; exact HN.out
          clear htt
          go_wp2_with fail
          by_cases hfull : most ≤ (tt : Int)
          · have HFULL := Lib.hid hfull
            go_region_held3 (fun w' => w'.cell? ⟨pb, 0, none⟩ = some (.int .i64 p.t) ∧ w'.cell? ⟨pb, 1, none⟩ = some (.int .i64 p.k) ∧ w'.cell? ⟨pb, 2, none⟩ = some (.int .u64 p.b) ∧ w'.cell? ⟨pb, 3, none⟩ = some (.string p.s) ∧ w'.cell? ⟨r, 1, none⟩ = some (.int .i64 most)) (first | exact HS.out _ HB4.out | exact HS.out _ (HB3.out.trans (((Below.refl _ _).drew).mono HB3.out.size)) | go_keep)
              (first
                | (go_at_call 17; refine (refGet _ T r R most s f p.t p.t HRD.out HL.out HATN.out).mono ?_; rintro e w4 ⟨gv, gb, rfl, _, hrow4, hb4⟩; rw [HC0.out] at hrow4; obtain ⟨ga, gc, rfl⟩ := row_form hrow4; have HB4 := Lib.hid (HB3.out.trans ((((Below.refl w3.heap.size w3).drew).trans hb4).mono HB3.out.size)); clear hrow4 hb4)
                | (go_at_call 16; refine (refSize _ T r R most (HR0.out.later HB4.out) HN.out HL.out).mono ?_; rw [HTT.out]; rintro e w5 ⟨rfl, rfl⟩))
            all_goals
              go_wp2_with fail
              go_ret
              exact rput_stays HH.out (HB0.out.trans (HB4.out.mono HB0.out.size)) 7 (putE_full HFM.out HOK.out HTH.out (by rw [← rtot_pc, HTT.out]; have := HFULL.out; omega)) (by decide)
          · have HFULL := Lib.hid hfull
            go_region_held3 (fun w' => w'.cell? ⟨pb, 0, none⟩ = some (.int .i64 p.t) ∧ w'.cell? ⟨pb, 1, none⟩ = some (.int .i64 p.k) ∧ w'.cell? ⟨pb, 2, none⟩ = some (.int .u64 p.b) ∧ w'.cell? ⟨pb, 3, none⟩ = some (.string p.s) ∧ w'.cell? ⟨r, 1, none⟩ = some (.int .i64 most)) (first | exact HS.out _ HB4.out | exact HS.out _ (HB3.out.trans (((Below.refl _ _).drew).mono HB3.out.size)) | go_keep)
              (first
                | (go_at_call 17; refine (refGet _ T r R most s f p.t p.t HRD.out HL.out HATN.out).mono ?_; rintro e w4 ⟨gv, gb, rfl, _, hrow4, hb4⟩; rw [HC0.out] at hrow4; obtain ⟨ga, gc, rfl⟩ := row_form hrow4; have HB4 := Lib.hid (HB3.out.trans ((((Below.refl w3.heap.size w3).drew).trans hb4).mono HB3.out.size)); clear hrow4 hb4)
                | (go_at_call 16; refine (refSize _ T r R most (HR0.out.later HB4.out) HN.out HL.out).mono ?_; rw [HTT.out]; rintro e w5 ⟨rfl, rfl⟩))
            all_goals
              go_wp2_with fail
              have HB4a := HB4
              obtain ⟨p0, p1, p2, p3, r1⟩ := HS.out _ HB4a.out
              have HRL := Lib.hid (show RefAt w4.drew T r R most from (HR0.out.later HB4a.out).same2 fun _ _ _ => rfl)
              have HPL := Lib.hid ((HB4a.out.block pb (heap_lt HP0.out)).trans HP0.out)
              go_region_held3 (fun w' => w'.cell? ⟨pb, 0, none⟩ = some (.int .i64 p.t) ∧ w'.cell? ⟨pb, 1, none⟩ = some (.int .i64 p.k) ∧ w'.cell? ⟨pb, 2, none⟩ = some (.int .u64 p.b) ∧ w'.cell? ⟨pb, 3, none⟩ = some (.string p.s)) (first | exact HS6.out | go_keep)
                (first
                  | (go_at_call 46; refine (refLay _ T r R most s f p HRL.out HL.out HN.out).mono ?_; rintro e w6 ⟨R', lb, rfl, ht6, hr6, h16, h26⟩; have HS6 := Lib.hid (lay_keep ht6 HPL.out (fun e => by have := HTL.out _ e; have := HPBN.out; omega)); have HLAY := Lib.hid (show LayPost w4.drew T r R most s f p (.returned (.bool lb)) w6 from ⟨R', lb, rfl, ht6, hr6, h16, h26⟩); clear ht6 hr6 h16 h26))
              all_goals
                go_wp2_with fail
                go_ret
                exact rput_laid HG.out (HB0.out.trans (HB4a.out.drew.mono HB0.out.size)) HLAY.out (putE_new HFM.out HOK.out HTH.out (by rw [← rtot_pc, HTT.out]; have := HFULL.out; omega))
        | true =>
          have HTH := Lib.hid hth
          have HC0 : Hid (((atL R s f).filter (inR p.t p.t)).length ≠ 0) := Lib.hid (fun e => by have := HCN.out.1 e; rw [HAT.out, hth] at this; cases this)
          clear hth
          go_enter Try.func27, Try.ntmps27
          go_wp2_with fail
          refine (refFormed p.k p.b p.s w0 HPB.out HPS.out).mono ?_
          rw [HFM.out]
          rintro e w1 ⟨rfl, hb1⟩
          have HB1 := Lib.hid hb1
          clear hb1 p0 p1 p2 p3 r1
          go_wp2_with fail
          refine (refAt w1 T r R most s f (HR0.out.later HB1.out) HL.out).mono ?_
          rw [HHB.out]
          rintro e w2 ⟨rfl, hb2⟩
          have HB2 := Lib.hid (HB1.out.trans (hb2.mono HB1.out.size))
          obtain ⟨p0, p1, p2, p3, r1⟩ := HS.out _ HB2.out
          clear hb2 hw0 hpb'
          rw [HATI.out]
          have hkb := HKB.out
          have c0 := HC.out _ HB2.out
          obtain ⟨y2, y3⟩ := HREAD.out _ HB2.out
          go_wp2_with fail
          go_quiet (fail)
          clear hkb c0 y2 y3
          have HB3 := Lib.hid (below_drewN HB2.out nq)
          obtain ⟨p0, p1, p2, p3, r1⟩ := HS.out _ HB3.out
          obtain ⟨w3, hw3⟩ : ∃ w3, w2.drewN nq = w3 := ⟨_, rfl⟩
          rw [hw3] at HB3 p0 p1 p2 p3 r1 ⊢
          clear hw3
          have HRD := Lib.hid (show RefAt w3.drew T r R most from (HR0.out.later HB3.out).same2 fun _ _ _ => rfl)
          obtain ⟨tt, htt⟩ : ∃ n, rtot R = n := ⟨_, rfl⟩
          have HTT := Lib.hid htt
          obtain ⟨cn, hcn⟩ : ∃ n, ((atL R s f).filter (inR p.t p.t)).length = n := ⟨_, rfl⟩
          have hcn0 : ((cn : Int) == 0) = false := by have := HC0.out; rw [hcn] at this; simp [this]
          have hcn1 : ¬ cn = 0 := by have := HC0.out; rw [hcn] at this; exact this
          have hcn2 : (cn == 0) = false := by simp [hcn1]
          have HCNT := Lib.hid hcn
          clear htt hcn
          go_wp2_with fail
          refine wp_region_held_drew (S := (fun w' => w'.cell? ⟨pb, 0, none⟩ = some (.int .i64 p.t) ∧ w'.cell? ⟨pb, 1, none⟩ = some (.int .i64 p.k) ∧ w'.cell? ⟨pb, 2, none⟩ = some (.int .u64 p.b) ∧ w'.cell? ⟨pb, 3, none⟩ = some (.string p.s) ∧ w'.cell? ⟨r, 1, none⟩ = some (.int .i64 most))) (by kernel_rfl) (HS.out _ (HB3.out.trans (((Below.refl _ _).drew).mono HB3.out.size))) (fun hHeld => ?_)
          refine take_d (i := 0) (v := ?_) (some 44) rfl (by kernel_rfl) (by kernel_rfl) (by kernel_rfl) (by kernel_rfl) (fun _ _ _ h => h) (Or.inl ⟨by kernel_rfl, ?_⟩) (by assumption) ?_
          rotate_left
          · (intro w hSw; (try dsimp only at hSw); go_simp; first | done | with_reducible rfl)
          try simp only [Act.put, List.setIfInBounds_toArray, List.set_cons_zero, List.set_cons_succ]
          refine take_d (i := 1) (v := ?_) (some 45) rfl (by kernel_rfl) (by kernel_rfl) (by kernel_rfl) (by kernel_rfl) (fun _ _ _ h => h) (Or.inl ⟨by kernel_rfl, ?_⟩) (by assumption) ?_
          rotate_left
          · (intro w hSw; (try dsimp only at hSw); go_simp; first | done | with_reducible rfl)
          try simp only [Act.put, List.setIfInBounds_toArray, List.set_cons_zero, List.set_cons_succ]
          refine take_d (i := 2) (v := ?_) (some 46) rfl (by kernel_rfl) (by kernel_rfl) (by kernel_rfl) (by kernel_rfl) (fun _ _ _ h => h) (Or.inl ⟨by kernel_rfl, ?_⟩) (by assumption) ?_
          rotate_left
          · (intro w hSw; (try dsimp only at hSw); go_simp; first | done | with_reducible rfl)
          try simp only [Act.put, List.setIfInBounds_toArray, List.set_cons_zero, List.set_cons_succ]
          refine take_d (i := 3) (v := ?_) (some 47) rfl (by kernel_rfl) (by kernel_rfl) (by kernel_rfl) (by kernel_rfl) (fun _ _ _ h => h) (Or.inl ⟨by kernel_rfl, ?_⟩) (by assumption) ?_
          rotate_left
          · (intro w hSw; (try dsimp only at hSw); go_simp; first | done | with_reducible rfl)
          try simp only [Act.put, List.setIfInBounds_toArray, List.set_cons_zero, List.set_cons_succ]
          refine take_d (i := 4) (v := ?_) (some 48) rfl (by kernel_rfl) (by kernel_rfl) (by kernel_rfl) (by kernel_rfl) (fun _ _ _ h => h) (Or.inl ⟨by kernel_rfl, ?_⟩) (by assumption) ?_
          rotate_left
          · (intro w hSw; (try dsimp only at hSw); go_simp; first | done | with_reducible rfl)
          try simp only [Act.put, List.setIfInBounds_toArray, List.set_cons_zero, List.set_cons_succ]
          refine take_d (i := 5) (v := ?_) (some 49) rfl (by kernel_rfl) (by kernel_rfl) (by kernel_rfl) (by kernel_rfl) (fun _ _ _ h => h) (Or.inl ⟨by kernel_rfl, ?_⟩) (by assumption) ?_
          rotate_left
          · (intro w hSw; (try dsimp only at hSw); go_simp; first | done | with_reducible rfl)
          try simp only [Act.put, List.setIfInBounds_toArray, List.set_cons_zero, List.set_cons_succ]
          refine take_d (i := 6) (v := ?_) (some 50) rfl (by kernel_rfl) (by kernel_rfl) (by kernel_rfl) (by kernel_rfl) (fun _ _ _ h => h) (Or.inl ⟨by kernel_rfl, ?_⟩) (by assumption) ?_
          rotate_left
          · (intro w hSw; (try dsimp only at hSw); go_simp; first | done | with_reducible rfl)
          try simp only [Act.put, List.setIfInBounds_toArray, List.set_cons_zero, List.set_cons_succ]
          refine take_d (i := 7) (v := ?_) (some 51) rfl (by kernel_rfl) (by kernel_rfl) (by kernel_rfl) (by kernel_rfl) (fun _ _ _ h => h) (Or.inl ⟨by kernel_rfl, ?_⟩) (by assumption) ?_
          rotate_left
          · (intro w hSw; (try dsimp only at hSw); go_simp; first | done | with_reducible rfl)
          try simp only [Act.put, List.setIfInBounds_toArray, List.set_cons_zero, List.set_cons_succ]
          refine take_d (i := 8) (v := ?_) (some 52) rfl (by kernel_rfl) (by kernel_rfl) (by kernel_rfl) (by kernel_rfl) (fun _ _ _ h => h) (Or.inl ⟨by kernel_rfl, ?_⟩) (by assumption) ?_
          rotate_left
          · (intro w hSw; (try dsimp only at hSw); go_simp; first | done | with_reducible rfl)
          try simp only [Act.put, List.setIfInBounds_toArray, List.set_cons_zero, List.set_cons_succ]
          refine wpAnyH_ready (rs := [9]) (by kernel_rfl) (by simp) ?_
          refine AllReadyH.cons (o := { dst := some 53, op := Op.call { callee := Callee.value (Operand.func 17), args := #[Operand.tmp 46, Operand.tmp 47, Operand.tmp 48, Operand.tmp 50, Operand.tmp 52], argTypes := #[48, 9, 9, 2, 2] }, type := 23, pos := "ref.go:119", after := #[{ on := 2, ground := Ground.data }, { on := 3, ground := Ground.data }, { on := 4, ground := Ground.data }, { on := 6, ground := Ground.data }, { on := 8, ground := Ground.data }], guard := none }) rfl (fun K hK => ?_) AllReadyH.nil
          go_simp
          refine (refGet _ T r R most s f p.t p.t HRD.out HL.out HATN.out).mono ?_; rintro e w4 ⟨gv, gb, rfl, _, hrow4, hb4⟩; rw [HCNT.out] at hrow4; obtain ⟨ga, gc, rfl⟩ := row_form hrow4; have HB4 := Lib.hid (HB3.out.trans ((((Below.refl w3.heap.size w3).drew).trans hb4).mono HB3.out.size)); clear hrow4 hb4
          go_wp2_with fail
          refine hK.out _ _ ?_ (fun hHeld => ?_)
          · exact HS.out _ HB4.out
          clear hK K
          try simp only [Act.put, List.setIfInBounds_toArray, List.set_cons_zero, List.set_cons_succ]
          refine wpAnyH_ready (rs := [10]) (by kernel_rfl) (by simp) ?_
          refine AllReadyH.cons (o := { dst := some 54, op := Op.call { callee := Callee.builtin Builtin.len, args := #[Operand.tmp 53], argTypes := #[23] }, type := 3, pos := "ref.go:119", after := #[{ on := 9, ground := Ground.data }], guard := none }) rfl (fun K hK => ?_) AllReadyH.nil
          go_simp
          refine hK.out _ _ ?_ (fun hHeld => ?_)
          · assumption
          clear hK K
          try simp only [Act.put, List.setIfInBounds_toArray, List.set_cons_zero, List.set_cons_succ]
          refine take_d (i := 11) (v := ?_) (some 55) rfl (by kernel_rfl) (by kernel_rfl) (by kernel_rfl) (by kernel_rfl) (fun _ _ _ h => h) (Or.inl ⟨by kernel_rfl, ?_⟩) (by assumption) ?_
          rotate_left
          · (intro w hSw; (try dsimp only at hSw); go_simp; first | done | with_reducible rfl)
          try simp only [Act.put, List.setIfInBounds_toArray, List.set_cons_zero, List.set_cons_succ]
          refine take_d (i := 12) (v := ?_) (some 56) rfl (by kernel_rfl) (by kernel_rfl) (by kernel_rfl) (by kernel_rfl) (fun _ _ _ h => h) (Or.inl ⟨by kernel_rfl, ?_⟩) (by assumption) ?_
          rotate_left
          · (intro w hSw; (try dsimp only at hSw); go_simp; first | done | with_reducible rfl)
          try simp only [Act.put, List.setIfInBounds_toArray, List.set_cons_zero, List.set_cons_succ]
          refine take_d (i := 13) (v := undef) (some 57) rfl (by kernel_rfl) (by kernel_rfl) (by kernel_rfl) (by kernel_rfl) (fun _ _ _ h => h) (Or.inr ⟨by kernel_rfl, rfl⟩) (by assumption) ?_
          try simp only [Act.put, List.setIfInBounds_toArray, List.set_cons_zero, List.set_cons_succ]
          refine take_d (i := 14) (v := undef) (some 58) rfl (by kernel_rfl) (by kernel_rfl) (by kernel_rfl) (by kernel_rfl) (fun _ _ _ h => h) (Or.inr ⟨by kernel_rfl, rfl⟩) (by assumption) ?_
          try simp only [Act.put, List.setIfInBounds_toArray, List.set_cons_zero, List.set_cons_succ]
          refine take_d (i := 15) (v := undef) (some 59) rfl (by kernel_rfl) (by kernel_rfl) (by kernel_rfl) (by kernel_rfl) (fun _ _ _ h => h) (Or.inr ⟨by kernel_rfl, rfl⟩) (by assumption) ?_
          try simp only [Act.put, List.setIfInBounds_toArray, List.set_cons_zero, List.set_cons_succ]
          refine take_d (i := 16) (v := undef) (some 60) rfl (by kernel_rfl) (by kernel_rfl) (by kernel_rfl) (by kernel_rfl) (fun _ _ _ h => h) (Or.inr ⟨by kernel_rfl, rfl⟩) (by assumption) ?_
          try simp only [Act.put, List.setIfInBounds_toArray, List.set_cons_zero, List.set_cons_succ]
          refine take_d (i := 17) (v := undef) (some 61) rfl (by kernel_rfl) (by kernel_rfl) (by kernel_rfl) (by kernel_rfl) (fun _ _ _ h => h) (Or.inr ⟨by kernel_rfl, rfl⟩) (by assumption) ?_
          try simp only [Act.put, List.setIfInBounds_toArray, List.set_cons_zero, List.set_cons_succ]
          refine take_d (i := 18) (v := undef) (some 62) rfl (by kernel_rfl) (by kernel_rfl) (by kernel_rfl) (by kernel_rfl) (fun _ _ _ h => h) (Or.inr ⟨by kernel_rfl, rfl⟩) (by assumption) ?_
          try simp only [Act.put, List.setIfInBounds_toArray, List.set_cons_zero, List.set_cons_succ]
          refine take_d (i := 19) (v := undef) (some 63) rfl (by kernel_rfl) (by kernel_rfl) (by kernel_rfl) (by kernel_rfl) (fun _ _ _ h => h) (Or.inr ⟨by kernel_rfl, rfl⟩) (by assumption) ?_
          try simp only [Act.put, List.setIfInBounds_toArray, List.set_cons_zero, List.set_cons_succ]
          refine take_d (i := 20) (v := undef) (some 64) rfl (by kernel_rfl) (by kernel_rfl) (by kernel_rfl) (by kernel_rfl) (fun _ _ _ h => h) (Or.inr ⟨by kernel_rfl, rfl⟩) (by assumption) ?_
          try simp only [Act.put, List.setIfInBounds_toArray, List.set_cons_zero, List.set_cons_succ]
          refine take_d (i := 21) (v := undef) (some 65) rfl (by kernel_rfl) (by kernel_rfl) (by kernel_rfl) (by kernel_rfl) (fun _ _ _ h => h) (Or.inr ⟨by kernel_rfl, rfl⟩) (by assumption) ?_
          try simp only [Act.put, List.setIfInBounds_toArray, List.set_cons_zero, List.set_cons_succ]
          refine take_d (i := 22) (v := ?_) (some 66) rfl (by kernel_rfl) (by kernel_rfl) (by kernel_rfl) (by kernel_rfl) (fun _ _ _ h => h) (Or.inl ⟨by kernel_rfl, ?_⟩) (by assumption) ?_
          rotate_left
          · (intro w hSw; (try dsimp only at hSw); go_simp; first | done | with_reducible rfl)
          try simp only [Act.put, List.setIfInBounds_toArray, List.set_cons_zero, List.set_cons_succ]
          refine wpAnyH_done (by kernel_rfl) ?_ _
          all_goals
            go_wp2_with fail
            have HB4a := HB4
            obtain ⟨p0, p1, p2, p3, r1⟩ := HS.out _ HB4a.out
            have HRL := Lib.hid (show RefAt w4.drew T r R most from (HR0.out.later HB4a.out).same2 fun _ _ _ => rfl)
            have HPL := Lib.hid ((HB4a.out.block pb (heap_lt HP0.out)).trans HP0.out)
            go_region_held3 (fun w' => w'.cell? ⟨pb, 0, none⟩ = some (.int .i64 p.t) ∧ w'.cell? ⟨pb, 1, none⟩ = some (.int .i64 p.k) ∧ w'.cell? ⟨pb, 2, none⟩ = some (.int .u64 p.b) ∧ w'.cell? ⟨pb, 3, none⟩ = some (.string p.s)) (first | exact HS6.out | go_keep)
              (first
                | (go_at_call 46; refine (refLay _ T r R most s f p HRL.out HL.out HN.out).mono ?_; rintro e w6 ⟨R', lb, rfl, ht6, hr6, h16, h26⟩; have HS6 := Lib.hid (lay_keep ht6 HPL.out (fun e => by have := HTL.out _ e; have := HPBN.out; omega)); have HLAY := Lib.hid (show LayPost w4.drew T r R most s f p (.returned (.bool lb)) w6 from ⟨R', lb, rfl, ht6, hr6, h16, h26⟩); clear ht6 hr6 h16 h26))
            all_goals
              go_wp2_with fail
              go_ret
              exact rput_laid HG.out (HB0.out.trans (HB4a.out.drew.mono HB0.out.size)) HLAY.out (putE_there HFM.out HOK.out HTH.out)
      · have hkb : (q.k != p.k) = true := by simp [hkk]
        have HKB := Lib.hid hkb
        have HOK : Hid (otherK (ptsP (R.map pc) s f) p.k = true) := Lib.hid (by rw [HOKQ.out]; simp [hkk])
        clear hkk hkb
        go_enter Try.func27, Try.ntmps27
        go_wp2_with fail
        refine (refFormed p.k p.b p.s w0 HPB.out HPS.out).mono ?_
        rw [HFM.out]
        rintro e w1 ⟨rfl, hb1⟩
        have HB1 := Lib.hid hb1
        clear hb1 p0 p1 p2 p3 r1
        go_wp2_with fail
        refine (refAt w1 T r R most s f (HR0.out.later HB1.out) HL.out).mono ?_
        rw [HHB.out]
        rintro e w2 ⟨rfl, hb2⟩
        have HB2 := Lib.hid (HB1.out.trans (hb2.mono HB1.out.size))
        obtain ⟨p0, p1, p2, p3, r1⟩ := HS.out _ HB2.out
        clear hb2 hw0 hpb'
        rw [HATI.out]
        have hkb := HKB.out
        have c0 := HC.out _ HB2.out
        obtain ⟨y2, y3⟩ := HREAD.out _ HB2.out
        go_wp2_with fail
        go_quiet (fail)
        clear hkb c0 y2 y3
        go_wp2_with fail
        go_ret
        exact rput_stays HH.out (HB0.out.trans ((below_drewN HB2.out nq).mono HB0.out.size)) 5 (by unfold putE; rw [if_neg (by rw [HFM.out]; simp), if_pos HOK.out]) (by decide)
theorem RefAt.shrink {w : World} {T : Nat → Prop} {r : Nat} {R : List RC} {most : Int} (h : RefAt w T r R most) : RefAt w (fun k => T k ∧ k < w.heap.size) r R most := by
  obtain ⟨v, h1, h2, h3⟩ := h.blk
  exact ⟨⟨v, h1, h2, fun g hg => ⟨h3 g hg, (h2.lt g hg).2⟩⟩, h.col, ⟨h.here, heap_lt h1⟩, fun x hx g hg => ⟨h.mine x hx g hg, ((h.col x hx).lt g hg).2⟩⟩
theorem refPut (w : World) (T : Nat → Prop) (r : Nat) (R : List RC) (most : Int) (s f : ByteArray) (p : Pt) (h : RefAt w T r R most) (hg : Good (R.map pc)) (hpb : 0 ≤ p.b ∧ p.b < 2 ^ 64) (hps : p.s.size ≤ maxLen) (hn : rtot R ≤ 1000000000000) :
    Calls Try.prog 27 #[.pointer (some ⟨r, 0, none⟩), .string s, .string f, .agg #[.int .i64 p.t, .int .i64 p.k, .int .u64 p.b, .string p.s]] w (RPutPost w T r R most s f p) := by
  refine (refPut0 w _ r R most s f p h.shrink hg hpb hps hn (fun k hk => hk.2)).mono ?_
  rintro e w' ⟨R', h1, h2, h3, h4⟩
  refine ⟨R', h1, h2.mono fun k hk => hk.1, h3.grow fun k hk => ?_, h4⟩
  rcases hk with hk | hk
  · exact .inl hk.1
  · exact .inr hk
end Go.Proofs.Ytfhdaihladgchaa
