/- Add, walked. Condition: the bounds. -/
import Derived.Test.YtobcpafalfdpkaaAG
import Derived.Deep.RegionLaw
import Derived.Deep.Cut
import Derived.Deep.CutRange
namespace Go.Proofs.Ytobcpafalfdpkaa
open Go.RowKit Go.WideMaps Go.Sort
def addA (μ : Me) (s : Sr) : Bool × Int := if s.ok = true then (if (get μ.ss s.txt).isSome = true then (false, 0) else (true, 0)) else (false, 1)
def AddPost (w : World) (ρ : Nat → Option Role) (x m : Nat) (L : List (BA × Nat)) (M : BA → Me) (s : Sr) (N : Nat) (e : Ending) (w' : World) : Prop :=
  ∃ ρ' L' M', e = .returned (.tuple #[.bool (addA (meOf L M s.name) s).1, .int .i64 (addA (meOf L M s.name) s).2]) ∧ Chg w w' ρ ρ' x m L M L' M' s.name ∧
    ((addA (meOf L M s.name) s).1 = false → SameMe (meOf L M s.name) (meOf L' M' s.name)) ∧
    ((addA (meOf L M s.name) s).1 = true → ∃ sv : SV, sv.sr = s ∧ (meOf L' M' s.name).ss = put (meOf L M s.name).ss s.txt sv ∧ (meOf L' M' s.name).kd = (meOf L M s.name).kd ∧ Full (meOf L' M' s.name) ∧ BdN (meOf L' M' s.name) (N + 24) ∧
      ∀ k v t, At (meOf L' M' s.name) k v t ↔ At (meOf L M s.name) k v t ∨ (t = s.txt ∧ (k, v) ∈ s.tags))
def InAdd (w9 : World) (ρ9 : Nat → Option Role) (nm : BA) (b : Nat) (μ9 : Me) (s : Sr) (N n : Nat) (i : Value) (wr : World) : Prop :=
  ∃ (k : Nat) (ρr : Nat → Option Role) (μr : Me), k ≤ n ∧ i = .int .i64 k ∧ Mst w9 ρ9 nm b wr ρr μr ∧ μr.ss = μ9.ss ∧ μr.kd = μ9.kd ∧ μr.tm = μ9.tm ∧ Full μr ∧ BdN μr (N + 3 * k) ∧ ∀ k' v t, At μr k' v t ↔ At μ9 k' v t ∨ (t = s.txt ∧ (k', v) ∈ s.tags.take k)
def InTag (w9 : World) (ρ9 : Nat → Option Role) (nm : BA) (b : Nat) (μ9 : Me) (s : Sr) (N k gb : Nat) (p : BA × BA) (i : Value) (w' : World) : Prop :=
  ∃ (ρr : Nat → Option Role) (μr : Me) (kb : Nat), i = .int .i64 k ∧ Mst w9 ρ9 nm b w' ρr μr ∧ μr.ss = μ9.ss ∧ μr.kd = μ9.kd ∧ μr.tm = μ9.tm ∧ get μr.A p.1 = some kb ∧ FullX μr p.1 p.2 ∧ BdN μr (N + 3 * k + 1) ∧ (∀ k' v t, At μr k' v t ↔ At μ9 k' v t ∨ (t = s.txt ∧ (k', v) ∈ s.tags.take k)) ∧ w'.heap[gb]? = some (.cells #[.string p.1, .string p.2] 51 (0, 0))
def InVal (w9 : World) (ρ9 : Nat → Option Role) (nm : BA) (b : Nat) (μ9 : Me) (s : Sr) (N k gb : Nat) (p : BA × BA) (i : Value) (w' : World) : Prop :=
  ∃ (ρr : Nat → Option Role) (μr : Me) (kb vb : Nat), i = .int .i64 k ∧ Mst w9 ρ9 nm b w' ρr μr ∧ μr.ss = μ9.ss ∧ μr.kd = μ9.kd ∧ μr.tm = μ9.tm ∧ get μr.A p.1 = some kb ∧ get (μr.V p.1) p.2 = some vb ∧ FullX μr p.1 p.2 ∧ BdN μr (N + 3 * k + 2) ∧ (∀ k' v t, At μr k' v t ↔ At μ9 k' v t ∨ (t = s.txt ∧ (k', v) ∈ s.tags.take k)) ∧ w'.heap[gb]? = some (.cells #[.string p.1, .string p.2] 51 (0, 0))
set_option maxRecDepth 100000 in
set_option maxHeartbeats 4000000 in
theorem add9 {w : World} {ρ : Nat → Option Role} {x m : Nat} {L : List (BA × Nat)} {M : BA → Me} (h : IdxAt w ρ x m L M) {v : Value} {s : Sr} (hv : SrIn w v s) (hfree : FreeV ρ v) (hL : L.length < 4000000000000) {N : Nat} (hN : N ≤ 100000000000000) (hbd : BdN (meOf L M s.name) N) (hssb : (meOf L M s.name).ss.length < maxLen) (hfull : Full (meOf L M s.name)) :
    Calls Try.prog 9 #[.pointer (some ⟨x, 0, none⟩), v] w (AddPost w ρ x m L M s N) := by
  have hmm := @run_makeMap Try.prog
  obtain ⟨a, c, rfl, hac, hn63, htg, hnm, hsz⟩ := hv
  have hb1 := (Below.refl w.heap.size w).alloc (Nat.le_refl _) (.cells #[.string s.name, .slice a s.tags.length c] 31)
  have hx1 := heap_alloc_new w (.cells #[.string s.name, .slice a s.tags.length c] 31)
  obtain ⟨w1, hw1⟩ : ∃ w1, w.alloc (.cells #[.string s.name, .slice a s.tags.length c] 31) = w1 := ⟨_, rfl⟩
  rw [hw1] at hb1 hx1
  obtain ⟨xb, hxb⟩ : ∃ xb, w.heap.size = xb := ⟨_, rfl⟩
  rw [hxb] at hx1
  have hsr1 : SrIn w1 (.agg #[.string s.name, .slice a s.tags.length c]) s := SrIn.later ⟨a, c, rfl, hac, hn63, htg, hnm, hsz⟩ hb1
  have x0 : w1.cell? ⟨xb, 0, none⟩ = some (.string s.name) := by simp [World.cell?, hx1]
  have x1 : w1.cell? ⟨xb, 1, none⟩ = some (.slice a s.tags.length c) := by simp [World.cell?, hx1]
  have HT := Lib.hid (text28 hsr1)
  have HSR0 := Lib.hid (show SrIn w (.agg #[.string s.name, .slice a s.tags.length c]) s from ⟨a, c, rfl, hac, hn63, htg, hnm, hsz⟩)
  have HB1 := Lib.hid hb1
  have HX1 := Lib.hid hx1
  have HSR1 := Lib.hid hsr1
  have HH := Lib.hid h
  have HBD := Lib.hid hbd
  have HSSB := Lib.hid hssb
  have HFULL := Lib.hid hfull
  have HFR := Lib.hid hfree
  have HTG := Lib.hid htg
  have HSZ := Lib.hid hsz
  have HXB := Lib.hid hxb
  obtain ⟨n, hn⟩ : ∃ n, s.tags.length = n := ⟨_, rfl⟩
  rw [hn] at x1 HX1 HSR1 HT HSR0 HFR
  rw [hn] at hw1 hn63
  have HN := Lib.hid hn
  clear h hfree hbd hssb hfull hac htg hsz hb1 hx1 hsr1
  cases hok : s.ok with
  | false =>
    have HTX := Lib.hid (no_tx hok)
    have HA := Lib.hid (show addA (meOf L M s.name) s = (false, 1) by unfold addA; rw [if_neg (by rw [hok]; simp)])
    rw [HTX.out] at HT
    clear hok
    simp only [hn]
    go_enter Try.func9, Try.ntmps9
    go_wp2_with fail
    refine HT.out.mono ?_
    rintro e w2 ⟨rfl, hb2⟩
    have HB2 := Lib.hid (HB1.out.trans (hb2.mono HB1.out.size))
    clear hb2 x0 x1 hw1 hn hxb
    go_wp2_with fail
    go_ret2
    exact ⟨ρ, L, M, by rw [HA.out]; rfl, Chg.below HH.out _ HB2.out, fun _ => SameMe.refl _, fun h => by rw [HA.out] at h; cases h⟩
  | true =>
    have HTX := Lib.hid (ok_tx hok)
    have HTS := Lib.hid (txt_size hok)
    have hfew := ok_few hok
    rw [hn] at hfew
    have HOK := Lib.hid hok
    rw [HTX.out] at HT
    obtain ⟨t, ht⟩ : ∃ t, s.txt = t := ⟨_, rfl⟩
    rw [ht] at HT HTS
    have HTXT := Lib.hid ht
    clear hok
    simp only [hn]
    go_enter Try.func9, Try.ntmps9
    go_wp2_with fail
    refine HT.out.mono ?_
    rintro e w2 ⟨rfl, hb2⟩
    have hx2 := (hb2.block xb (heap_lt HX1.out)).trans HX1.out
    have y0 : w2.cell? ⟨xb, 0, none⟩ = some (.string s.name) := by simp [World.cell?, hx2]
    have HB2 := Lib.hid (HB1.out.trans (hb2.mono HB1.out.size))
    have HX2 := Lib.hid hx2
    clear hb2 x0 x1 hw1 hn hx2 ht hxb
    go_wp2_with fail
    refine (make29 (HH.out.below HB2.out) s.name hnm (by unfold maxLen; omega)).mono ?_
    intro e w3 hp
    unfold MadePost at hp
    obtain ⟨b, ρ3, L3, M3, he, hch, hgb, hsame, _⟩ := hp
    subst he
    have hx3 := (hch.step.block xb (heap_lt HX2.out) fun r e => by rw [HH.out.dom xb (by rw [HXB.out]; exact Nat.le_refl _)] at e; cases e).trans HX2.out
    have hch := hch.pre HH.out.dom HB2.out
    have hme := hch.idx.meas _ (get_some hgb)
    simp only at hme
    have hmst : Mst w3 ρ3 s.name b w3 ρ3 (M3 s.name) := ⟨hme, Step.refl hch.idx.dom⟩
    have c0 := hmst.cells.1
    have hlk := look68ok (a := some (M3 s.name).sm) hme.ser t (by unfold maxLen; have := HTS.out; omega)
    rw [hsame.ss] at hlk
    unfold getV at hlk
    have HCH := Lib.hid hch
    have HGB := Lib.hid hgb
    have HSM := Lib.hid hsame
    have HMST := Lib.hid hmst
    have HX3 := Lib.hid hx3
    clear hch hgb hme hmst hx3 y0 hsame
    cases hg : get (meOf L M s.name).ss t with
    | some sv =>
      have HA := Lib.hid (show addA (meOf L M s.name) s = (false, 0) by unfold addA; rw [if_pos HOK.out, HTXT.out, hg]; rfl)
      rw [hg] at hlk
      have hlk' : (Instr.lookup 68 (.map (some (M3 s.name).sm)) (.string t) true).run Try.prog w3 = .ok (.tuple #[.agg #[.string sv.sr.name, .slice (adr sv.a) sv.sr.tags.length sv.c], .bool true]) w3 := hlk
      clear hg hlk
      go_wp2_with fail
      go_ret2
      refine ⟨ρ3, L3, M3, by rw [HA.out]; rfl, HCH.out.post ((Below.refl _ _).alloc (Nat.le_refl _) _), fun _ => by rw [meOf_get HGB.out]; exact HSM.out, fun h => by rw [HA.out] at h; cases h⟩
    | none =>
      have HA := Lib.hid (show addA (meOf L M s.name) s = (true, 0) by unfold addA; rw [if_pos HOK.out, HTXT.out, hg]; rfl)
      rw [hg] at hlk
      have hlk' : (Instr.lookup 68 (.map (some (M3 s.name).sm)) (.string t) true).run Try.prog w3 = .ok (.tuple #[.agg #[.string ⟨#[]⟩, .slice none 0 0], .bool false]) w3 := hlk
      clear hg hlk
      have hb4 := (Below.refl w3.heap.size w3).alloc (Nat.le_refl _) (.cells #[.string ⟨#[]⟩, .slice none 0 0] 31)
      obtain ⟨w4, hw4⟩ : ∃ w4, w3.alloc (.cells #[.string ⟨#[]⟩, .slice none 0 0] 31) = w4 := ⟨_, rfl⟩
      rw [hw4] at hb4
      have hx4 := stay_below hb4 _ _ _ HX3.out
      have hm4 := HMST.out.below hb4
      have d0 := hm4.cells.1
      have x0 : w4.cell? ⟨xb, 0, none⟩ = some (.string s.name) := by simp [World.cell?, hx4]
      have x1 : w4.cell? ⟨xb, 1, none⟩ = some (.slice a n c) := by simp [World.cell?, hx4]
      have HM4 := Lib.hid hm4
      have HX4 := Lib.hid hx4
      have HW4 := Lib.hid hw4
      rw [← hw4] at d0 x0 x1
      clear hm4 hx4 hb4 hw4
      go_wp2_with fail
      simp only [HW4.out]
      rw [HW4.out] at d0 x0 x1
      clear hlk' c0
      have HB34 := Lib.hid (show Below w3.heap.size w3 w4.drew from by rw [← HW4.out]; exact ((Below.refl w3.heap.size w3).alloc (Nat.le_refl _) _).drew)
      have HCL2 := Lib.hid (clone30 ((HSR0.out.step HCH.out.step HFR.out (fun h => by rcases h with h | h; cases h; exact h)).later HB34.out) (by rw [HN.out]; omega))
      apply once
      · intro KEY
        go_region_law (first
          | (go_simp; go_at_call 30; (with_reducible refine HCL2.out.mono ?_); intro e w5 h; unfold ClonePost at h; obtain ⟨sv, he, hsr, hso, hb5⟩ := h; subst he; have hm5 := (HM4.out.below ((Below.refl _ _).drew)).below hb5; have hx5 := (hb5.block xb (by exact heap_lt HX4.out)).trans HX4.out; have r5 := hm5.cells.1; have hfv : ∀ b o, sv.a = some (b, o) → sv.sr.tags ≠ [] → ρ3 b = none := (fun b o ha _ => HM4.out.step.dom b (by exact (hso.row.lt b (hso.own ha)).1)); have hss : (M3 s.name).ss.length < maxLen := (by rw [HSM.out.ss]; exact HSSB.out); obtain ⟨w6, hrun6, hm6, hst6⟩ := hm5.putSer (hso.at (by rw [hsr, HN.out]; exact hfew)) hfv (show t.size ≤ maxLen by have := HTS.out; unfold maxLen; omega) hss; have HM6 := Lib.hid hm6; have HX6 := Lib.hid (hst6 _ _ _ hx5); have HSV := Lib.hid hsr; clear hsr hso hb5 hm5 hx5 hfv hss hm6 hst6; go_wp2_with fail))
        all_goals
          clear r5 hrun6
          revert HSV HX6 HM6
          revert w6 sv
          exact KEY.out
      intro sv w6 HM6 HX6 HSV
      clear d0 x0 x1
      have hx6 := HX6.out
      have x1 : w6.cell? ⟨xb, 1, none⟩ = some (.slice a n c) := by simp [World.cell?, hx6]
      obtain ⟨μ9, hμ9⟩ : ∃ μ9 : Me, { M3 s.name with ss := put (M3 s.name).ss t sv } = μ9 := ⟨_, rfl⟩
      have h9ss : μ9.ss = put (meOf L M s.name).ss t sv := by rw [← hμ9, ← HSM.out.ss]
      have h9kd : μ9.kd = (meOf L M s.name).kd := by rw [← hμ9, ← HSM.out.kd]
      have h9A : μ9.A = (meOf L M s.name).A := by rw [← hμ9, ← HSM.out.A]
      have h9V : μ9.V = (meOf L M s.name).V := by rw [← hμ9, ← HSM.out.V]
      have h9X : μ9.X = (meOf L M s.name).X := by rw [← hμ9, ← HSM.out.X]
      rw [hμ9] at HM6
      have H9 := Lib.hid (show Full μ9 ∧ BdN μ9 N ∧ (∀ k v t, At μ9 k v t ↔ At (meOf L M s.name) k v t) ∧ μ9.ss = put (meOf L M s.name).ss t sv ∧ μ9.kd = (meOf L M s.name).kd from
        ⟨full_congr h9A h9V h9X HFULL.out, ⟨by rw [h9A]; exact HBD.out.A, fun k => by rw [h9V]; exact HBD.out.V k, fun k v => by rw [h9X]; exact HBD.out.X k v⟩, at_congr h9A h9V h9X, h9ss, h9kd⟩)
      clear hx6 hμ9 h9ss h9kd h9A h9V h9X
      go_wp2_with fail
      clear x1
      go_loopw [48] (fun i wr => InAdd w3 ρ3 s.name b μ9 s N n i wr) (fun i _ => n - (intOf i).toNat)
      case atStart => exact ⟨0, ρ3, μ9, Nat.zero_le _, rfl, HM6.out, rfl, rfl, rfl, H9.out.1, H9.out.2.1, fun k v t => by simp⟩
      case round =>
        obtain ⟨k, ρr, μr, hkn, rfl, hms, hss, hkd, htm, hfl, hbn, hat⟩ := hrel
        have HMS := Lib.hid hms
        have HSS := Lib.hid hss
        have HKD := Lib.hid hkd
        have HTM := Lib.hid htm
        have HFL := Lib.hid hfl
        have HBN := Lib.hid hbn
        have HAT := Lib.hid hat
        clear hms hss hkd htm hfl hbn hat
        by_cases hlt : k < n
        · obtain ⟨p, hp⟩ : ∃ p, s.tags[k]? = some p := ⟨_, List.getElem?_eq_getElem (by rw [HN.out]; exact hlt)⟩
          obtain ⟨a', c', hv', _, _, htgr, _, hszr⟩ := HSR0.out.step (HCH.out.step.trans (HMS.out.step.more fun r h => .inr h)) HFR.out (fun h => by rcases h with h | h; cases h; exact h)
          injection hv' with hv'
          simp at hv'
          obtain ⟨hv1, _, _⟩ := hv'
          subst hv1
          obtain ⟨tb, off, rfl, _, q0, q1⟩ := htgr k (by rw [HN.out]; exact hlt)
          obtain ⟨e0, e1⟩ := kf_get hp
          rw [e0] at q0
          rw [e1] at q1
          obtain ⟨hk1, hk2⟩ := hszr p (List.mem_of_getElem? hp)
          have HP := Lib.hid hp
          have hbz := (Below.refl wr.heap.size wr).alloc (Nat.le_refl _) (.cells #[.string p.1, .string p.2] 51)
          have hgz := heap_alloc_new wr (.cells #[.string p.1, .string p.2] 51)
          obtain ⟨wz, hwz⟩ : ∃ wz, wr.alloc (.cells #[.string p.1, .string p.2] 51) = wz := ⟨_, rfl⟩
          rw [hwz] at hbz hgz
          obtain ⟨gb, hgb⟩ : ∃ gb, wr.heap.size = gb := ⟨_, rfl⟩
          rw [hgb] at hgz
          have hmz := HMS.out.below hbz
          have c1 := hmz.cells.2
          have g0 : wz.cell? ⟨gb, 0, none⟩ = some (.string p.1) := by simp [World.cell?, hgz]
          have g1 : wz.cell? ⟨gb, 1, none⟩ = some (.string p.2) := by simp [World.cell?, hgz]
          have hla : ∀ q, (Instr.lookup 69 (.map (some μr.tm)) (.string p.1) false).run Try.prog (wz.drewN q) = .ok (.map (get μr.A p.1)) (wz.drewN q) := fun q => (hmz.below (below_drewN' (Below.refl _ _) q)).lookA hk1
          have HMZ := Lib.hid hmz
          have HGZ := Lib.hid hgz
          clear hp htgr hszr e0 e1 hbz hgz hmz
          have he := eql74 (get μr.A p.1)
          go_wp2_with fail
          clear q0 q1 hwz hgb
          go_quiet (fail)
          go_upto_if 59 with fail
          refine wp_gen (fun w' => Mst w3 ρ3 s.name b w' ρr μr ∧ w'.heap[gb]? = some (.cells #[.string p.1, .string p.2] 51 (0, 0))) ⟨HMZ.out.below (below_drewN' (Below.refl _ _) _), HGZ.out⟩ ?_
          clear c1 g0 g1 hla he
          rintro wa ⟨hmwa, hgwa⟩
          have HMwa := Lib.hid hmwa
          have HGwa := Lib.hid hgwa
          clear hmwa hgwa
          go_cut [48] from 48 to 99 (fun i w' => InTag w3 ρ3 s.name b μ9 s N k gb p i w')
          case first =>
            cases hgA : get μr.A p.1 with
            | none =>
              have HGA := Lib.hid hgA
              clear hgA
              have c1 := HMwa.out.cells.2
              have g0 : wa.cell? ⟨gb, 0, none⟩ = some (.string p.1) := by simp [World.cell?, HGwa.out]
              have g1 : wa.cell? ⟨gb, 1, none⟩ = some (.string p.2) := by simp [World.cell?, HGwa.out]
              obtain ⟨w13, hrun13, hm13, hst13⟩ := HMwa.out.addKey HGA.out hk1 (by have := HBN.out.A; unfold maxLen; omega) 1
              have hrun13' : (Instr.mapUpdate 69 (.map (some μr.tm)) (.string p.1) (.map (some wa.heap.size))).run Try.prog ((wa.alloc (.map #[] 0)).drew) = .ok () w13 := hrun13
              have hrun13'' : (Instr.mapUpdate 69 (.map (some μr.tm)) (.string p.1) (.map (some wa.heap.size))).run Try.prog (wa.drew.alloc (.map #[] 0)) = .ok () w13 := hrun13
              have HM13 := Lib.hid hm13
              have HG13 := Lib.hid (hst13 _ _ _ HGwa.out)
              have HKB := Lib.hid (show get (addKey μr p.1 wa.heap.size).A p.1 = some wa.heap.size by show get (put _ _ _) _ = _; rw [get_put, if_pos rfl])
              have HAX := Lib.hid (show ∀ k' v t', At (addKey μr p.1 wa.heap.size) k' v t' ↔ At μ9 k' v t' ∨ (t' = s.txt ∧ (k', v) ∈ s.tags.take k) from fun k' v t' => by
                rw [← HAT.out]
                unfold At
                rw [texts_addKey HGA.out])
              have HFX := Lib.hid (full_addKey HFL.out p.1 p.2 wa.heap.size)
              have HBX := Lib.hid (bd_addKey HBN.out p.1 wa.heap.size)
              have g0A := alloc_cell (o := .map #[] 0) g0
              have g1A := alloc_cell (o := .map #[] 0) g1
              have c1A := alloc_cell (o := .map #[] 0) c1
              clear hrun13 hm13 hst13
              go_wp2_with fail
              go_region
              go_wp2_with fail
              go_meet
              exact ⟨_, _, _, rfl, HM13.out, HSS.out, HKD.out, HTM.out, HKB.out, HFX.out, HBX.out, HAX.out, HG13.out⟩
            | some kb =>
              go_wp2_with fail
              go_meet
              exact ⟨_, _, _, rfl, HMwa.out, HSS.out, HKD.out, HTM.out, hgA, HFL.out.x p.1 p.2, HBN.out.more (by omega), HAT.out, HGwa.out⟩
          case rest =>
            clear HMS HSS HKD HTM HFL HBN HAT HMZ HGZ HMwa HGwa
            obtain ⟨ρr, μr, kb, hi, hms, hss, hkd, htm, hka, hfx, hbx, hat, hgw⟩ := hcut
            subst hi
            have HMS := Lib.hid hms
            have HSS := Lib.hid hss
            have HKD := Lib.hid hkd
            have HTM := Lib.hid htm
            have HKB := Lib.hid hka
            have HFX := Lib.hid hfx
            have HBX := Lib.hid hbx
            have HAT := Lib.hid hat
            have HGW := Lib.hid hgw
            have c1 := hms.cells.2
            have g0 : wc.cell? ⟨gb, 0, none⟩ = some (.string p.1) := by simp [World.cell?, hgw]
            have g1 : wc.cell? ⟨gb, 1, none⟩ = some (.string p.2) := by simp [World.cell?, hgw]
            have hla : ∀ q, (Instr.lookup 69 (.map (some μr.tm)) (.string p.1) false).run Try.prog (wc.drewN q) = .ok (.map (some kb)) (wc.drewN q) := fun q => by
              have := (HMS.out.below (below_drewN' (Below.refl _ _) q)).lookA hk1
              rw [HKB.out] at this
              exact this
            have hlv : ∀ q, (Instr.lookup 74 (.map (some kb)) (.string p.2) false).run Try.prog (wc.drewN q) = .ok (.map (get (μr.V p.1) p.2)) (wc.drewN q) := fun q => (HMS.out.below (below_drewN' (Below.refl _ _) q)).lookV HKB.out hk2
            have he75 := eql75 (get (μr.V p.1) p.2)
            clear hms hss hkd htm hka hfx hbx hat hgw
            go_wp2_with fail
            go_quiet (fail)
            go_upto_if 77 with fail
            refine wp_gen (fun w' => Mst w3 ρ3 s.name b w' ρr μr ∧ w'.heap[gb]? = some (.cells #[.string p.1, .string p.2] 51 (0, 0))) ⟨HMS.out.below (below_drewN' (Below.refl _ _) _), HGW.out⟩ ?_
            clear c1 g0 g1 hla hlv he75 HMS HGW
            rintro wa ⟨hmwa, hgwa⟩
            have HMwa := Lib.hid hmwa
            have HGwa := Lib.hid hgwa
            clear hmwa hgwa
            go_cut [48] from 48 to 99 (fun i w' => InVal w3 ρ3 s.name b μ9 s N k gb p i w')
            case first =>
              cases hgV : get (μr.V p.1) p.2 with
              | none =>
                have HNV := Lib.hid hgV
                clear hgV
                have c1 := HMwa.out.cells.2
                have g0 : wa.cell? ⟨gb, 0, none⟩ = some (.string p.1) := by simp [World.cell?, HGwa.out]
                have g1 : wa.cell? ⟨gb, 1, none⟩ = some (.string p.2) := by simp [World.cell?, HGwa.out]
                have hmB := HMwa.out.below (((Below.refl wa.heap.size wa).alloc (Nat.le_refl _) (.map #[] 0)).drew)
                have hlaA := (HMwa.out.below ((Below.refl _ _).drew)).lookA hk1
                have hlaB := hmB.lookA hk1
                rw [HKB.out] at hlaA hlaB
                obtain ⟨w15, hrun15, hm15, hst15⟩ := HMwa.out.addVal HKB.out HNV.out hk2 (by have := HBX.out.V p.1; unfold maxLen; omega) 1
                have hrun15' : (Instr.mapUpdate 74 (.map (some kb)) (.string p.2) (.map (some wa.heap.size))).run Try.prog (((wa.alloc (.map #[] 0))).drew) = .ok () w15 := hrun15
                have hrun15'' : (Instr.mapUpdate 74 (.map (some kb)) (.string p.2) (.map (some wa.heap.size))).run Try.prog (wa.drew.alloc (.map #[] 0)) = .ok () w15 := hrun15
                have hlaC : (Instr.lookup 69 (.map (some μr.tm)) (.string p.1) false).run Try.prog (wa.drew.alloc (.map #[] 0)) = .ok (.map (some kb)) (wa.drew.alloc (.map #[] 0)) := hlaB
                have HM15 := Lib.hid hm15
                have HG15 := Lib.hid (hst15 _ _ _ HGwa.out)
                have HVB := Lib.hid (show get ((addVal μr p.1 p.2 wa.heap.size).V p.1) p.2 = some wa.heap.size by show get (updF _ _ _ _) _ = _; rw [updF_same, get_put, if_pos rfl])
                have HAX := Lib.hid (show ∀ k' v t', At (addVal μr p.1 p.2 wa.heap.size) k' v t' ↔ At μ9 k' v t' ∨ (t' = s.txt ∧ (k', v) ∈ s.tags.take k) from fun k' v t' => (at_addVal HKB.out HNV.out _ k' v t').trans (HAT.out k' v t'))
                have g0A := alloc_cell (o := .map #[] 0) g0
                have g1A := alloc_cell (o := .map #[] 0) g1
                have c1A := alloc_cell (o := .map #[] 0) c1
                clear hmB hrun15 hm15 hst15
                go_wp2_with fail
                go_region
                go_wp2_with fail
                go_meet
                exact ⟨_, _, _, _, rfl, HM15.out, HSS.out, HKD.out, HTM.out, HKB.out, HVB.out, full_addVal HFX.out (v := p.2) _, bd_addVal HBX.out p.1 p.2 _, HAX.out, HG15.out⟩
              | some vb =>
                go_wp2_with fail
                go_meet
                exact ⟨_, _, _, _, rfl, HMwa.out, HSS.out, HKD.out, HTM.out, HKB.out, hgV, HFX.out, HBX.out.more (by omega), HAT.out, HGwa.out⟩
            case rest =>
              clear HSS HKD HTM HKB HFX HBX HAT HMwa HGwa
              obtain ⟨ρr, μr, kb, vb, hi, hms, hss, hkd, htm, hka, hvb, hfx, hbx, hat, hgw⟩ := hcut
              subst hi
              have HMS := Lib.hid hms
              have HSS := Lib.hid hss
              have HKD := Lib.hid hkd
              have HTM := Lib.hid htm
              have HKB := Lib.hid hka
              have HVB := Lib.hid hvb
              have HFX := Lib.hid hfx
              have HBX := Lib.hid hbx
              have HAT := Lib.hid hat
              have HGW := Lib.hid hgw
              have c1 := hms.cells.2
              have g0 : wc.cell? ⟨gb, 0, none⟩ = some (.string p.1) := by simp [World.cell?, hgw]
              have g1 : wc.cell? ⟨gb, 1, none⟩ = some (.string p.2) := by simp [World.cell?, hgw]
              have hm16 := hms.below ((Below.refl _ _).drew)
              have hla := hm16.lookA hk1
              have hlv := hm16.lookV HKB.out hk2
              rw [HKB.out] at hla
              rw [HVB.out] at hlv
              obtain ⟨w16, hrun16, hm17, hst16⟩ := hm16.addText (t := t) HKB.out HVB.out (by have := HTS.out; unfold maxLen; omega) (by have := HBX.out.X p.1 p.2; unfold maxLen; omega)
              have HM17 := Lib.hid hm17
              clear hm16 hm17 hst16 hms hss hkd htm hka hvb hfx hbx hat hgw
              go_wp2_with fail
              go_region
              go_wp2_with fail
              go_roundw
              case rel =>
                refine ⟨k + 1, _, _, by omega, by go_num, HM17.out, HSS.out, HKD.out, HTM.out, full_addText HFX.out HVB.out t, (bd_addText HBX.out p.1 p.2 t).more (by omega), fun k' v t' => ?_⟩
                rw [at_addText HKB.out HVB.out, HAT.out]
                obtain ⟨hk9, he9⟩ := List.getElem?_eq_some_iff.1 HP.out
                rw [List.take_succ_eq_append_getElem hk9, he9, List.mem_append, List.mem_singleton, HTXT.out]
                constructor
                · rintro ((h1 | ⟨h1, h2⟩) | ⟨h1, h2, h3⟩)
                  · exact .inl h1
                  · exact .inr ⟨h1, .inl h2⟩
                  · exact .inr ⟨h3, .inr (by rw [h1, h2])⟩
                · rintro (h1 | ⟨h1, h2 | h2⟩)
                  · exact .inl (.inl h1)
                  · exact .inl (.inr ⟨h1, h2⟩)
                  · exact .inr ⟨congrArg Prod.fst h2, congrArg Prod.snd h2, h1⟩
              case measure => simp [intOf]; omega
        · have hk : k = n := by omega
          have HK := Lib.hid hk
          clear hk
          go_wp2_with fail
          go_ret2
          obtain ⟨hc9, hmo9⟩ := HCH.out.next HGB.out HMS.out.me HMS.out.step
          refine ⟨ρr, L3, _, by rw [HA.out]; rfl, hc9, (fun h => by rw [HA.out] at h; cases h), fun _ => ⟨sv, HSV.out, ?_, ?_, ?_, ?_, ?_⟩⟩
          · rw [hmo9, HSS.out, H9.out.2.2.2.1, HTXT.out]
          · rw [hmo9, HKD.out, H9.out.2.2.2.2]
          · rw [hmo9]; exact HFL.out
          · rw [hmo9]; exact HBN.out.more (by omega)
          · intro k' v t'
            rw [hmo9, HAT.out, H9.out.2.2.1, List.take_of_length_le (by rw [HN.out, HK.out]; exact Nat.le_refl _)]
end Go.Proofs.Ytobcpafalfdpkaa
