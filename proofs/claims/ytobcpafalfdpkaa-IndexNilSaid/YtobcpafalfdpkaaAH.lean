/- Drop, walked. Condition: the series' tags lie in the index, each once, if its text does. -/
import Derived.Test.YtobcpafalfdpkaaAG
import Derived.Deep.RegionLaw
namespace Go.Proofs.Ytobcpafalfdpkaa
open Go.RowKit Go.WideMaps Go.Sort
def dropA (μ : Me) (s : Sr) : Bool := s.ok && (get μ.ss s.txt).isSome
def DropPost (w : World) (ρ : Nat → Option Role) (x m : Nat) (L : List (BA × Nat)) (M : BA → Me) (s : Sr) (N : Nat) (e : Ending) (w' : World) : Prop :=
  ∃ M', e = .returned (.bool (dropA (meOf L M s.name) s)) ∧ Chg w w' ρ ρ x m L M L M' s.name ∧
    (dropA (meOf L M s.name) s = false → SameMe (meOf L M s.name) (meOf L M' s.name)) ∧
    (dropA (meOf L M s.name) s = true → (meOf L M' s.name).ss = del (meOf L M s.name).ss s.txt ∧ (meOf L M' s.name).kd = (meOf L M s.name).kd ∧ Full (meOf L M' s.name) ∧ BdN (meOf L M' s.name) N ∧
      ∀ k v t, At (meOf L M' s.name) k v t ↔ At (meOf L M s.name) k v t ∧ ¬ (t = s.txt ∧ (k, v) ∈ s.tags))
def InDrop (w9 : World) (ρ : Nat → Option Role) (nm : BA) (b : Nat) (μ9 : Me) (s : Sr) (N n : Nat) (i : Value) (wr : World) : Prop :=
  ∃ (k : Nat) (μr : Me), k ≤ n ∧ i = .int .i64 k ∧ Mst w9 ρ nm b wr ρ μr ∧ μr.ss = μ9.ss ∧ μr.kd = μ9.kd ∧ Full μr ∧ BdN μr N ∧ ∀ k' v t, At μr k' v t ↔ At μ9 k' v t ∧ ¬ (t = s.txt ∧ (k', v) ∈ s.tags.take k)
theorem serAgg (L : List (BA × SV)) (t : BA) : ∃ nm a n c, getV serK L t sv0.val = .agg #[.string nm, .slice a n c] := by
  unfold getV
  cases get L t with
  | none => exact ⟨_, _, _, _, rfl⟩
  | some sv => exact ⟨_, _, _, _, rfl⟩
theorem eq_int (n : Nat) (k : Bool) (h : ((n : Int) == 0) = k) (w : World) : (binOp .eql 3 (.int .i64 n) (.int .i64 0)).run Try.prog w = .ok (.bool k) w := by
  rw [← h]; rfl
set_option maxRecDepth 100000 in
set_option maxHeartbeats 4000000 in
theorem drop17 {w : World} {ρ : Nat → Option Role} {x m : Nat} {L : List (BA × Nat)} {M : BA → Me} (h : IdxAt w ρ x m L M) {v : Value} {s : Sr} (hv : SrIn w v s) (hfree : FreeV ρ v) {N : Nat} (hbd : BdN (meOf L M s.name) N) (hfull : Full (meOf L M s.name)) (hall : s.ok = true → (get (meOf L M s.name).ss s.txt).isSome = true → s.tags.Nodup ∧ ∀ p ∈ s.tags, At (meOf L M s.name) p.1 p.2 s.txt) :
    Calls Try.prog 17 #[.pointer (some ⟨x, 0, none⟩), v] w (DropPost w ρ x m L M s N) := by
  obtain ⟨a, c, rfl, hac, hn63, htg, hnm, hsz⟩ := hv
  have hb1 := (Below.refl w.heap.size w).alloc (Nat.le_refl _) (.cells #[.string s.name, .slice a s.tags.length c] 31)
  have hx1 := heap_alloc_new w (.cells #[.string s.name, .slice a s.tags.length c] 31)
  obtain ⟨w1, hw1⟩ : ∃ w1, w.alloc (.cells #[.string s.name, .slice a s.tags.length c] 31) = w1 := ⟨_, rfl⟩
  rw [hw1] at hb1 hx1
  obtain ⟨xb, hxb⟩ : ∃ xb, w.heap.size = xb := ⟨_, rfl⟩
  rw [hxb] at hx1
  have hsr1 : SrIn w1 (.agg #[.string s.name, .slice a s.tags.length c]) s := SrIn.later ⟨a, c, rfl, hac, hn63, htg, hnm, hsz⟩ hb1
  have x0 : w1.cell? ⟨xb, 0, none⟩ = some (.string s.name) := by simp [World.cell?, hx1]
  have x1 : w1.cell? ⟨xb, 1, none⟩ = some (.slice a s.tags.length c) := by simp [World.cell?, hx1]
  have HT := Lib.hid (text28 hsr1)
  have HSR0 := Lib.hid (show SrIn w (.agg #[.string s.name, .slice a s.tags.length c]) s from ⟨a, c, rfl, hac, hn63, htg, hnm, hsz⟩)
  have HB1 := Lib.hid hb1
  have HX1 := Lib.hid hx1
  have HH := Lib.hid h
  have HBD := Lib.hid hbd
  have HFULL := Lib.hid hfull
  have HALL := Lib.hid hall
  have HFR := Lib.hid hfree
  have HXB := Lib.hid hxb
  have HNM := Lib.hid hnm
  obtain ⟨n, hn⟩ : ∃ n, s.tags.length = n := ⟨_, rfl⟩
  rw [hn] at x1 HX1 HT HSR0 HFR
  rw [hn] at hw1 hn63
  have HN := Lib.hid hn
  clear h hfree hbd hfull hall hac htg hsz hb1 hx1 hsr1
  by_cases hgo : s.ok = true ∧ (get (meOf L M s.name).ss s.txt).isSome = true
  · obtain ⟨hok, hin⟩ := hgo
    obtain ⟨hnd, hats⟩ := HALL.out hok hin
    have HA := Lib.hid (show dropA (meOf L M s.name) s = true by unfold dropA; rw [hok, hin]; rfl)
    have HTX := Lib.hid (ok_tx hok)
    have HTS := Lib.hid (txt_size hok)
    have hfew := ok_few hok
    rw [hn] at hfew
    rw [HTX.out] at HT
    obtain ⟨t, ht⟩ : ∃ t, s.txt = t := ⟨_, rfl⟩
    rw [ht] at HT HTS hin hats
    have HTXT := Lib.hid ht
    obtain ⟨sv, hsv⟩ := Option.isSome_iff_exists.1 hin
    cases hgL : get L s.name with
    | none =>
      exfalso
      unfold meOf at hsv
      rw [hgL] at hsv
      cases hsv
    | some b =>
    have hME : meOf L M s.name = M s.name := by unfold meOf; rw [hgL]
    have HME := Lib.hid hME
    have HGB := Lib.hid hgL
    have HSV := Lib.hid hsv
    have HND := Lib.hid hnd
    have HATS := Lib.hid hats
    clear hok hin hnd hats hsv hgL hME
    simp only [hn]
    go_enter Try.func17, Try.ntmps17
    go_wp2_with fail
    refine HT.out.mono ?_
    rintro e w2 ⟨rfl, hb2⟩
    have hx2 := (hb2.block xb (heap_lt HX1.out)).trans HX1.out
    have y0 : w2.cell? ⟨xb, 0, none⟩ = some (.string s.name) := by simp [World.cell?, hx2]
    have HB2 := Lib.hid (HB1.out.trans (hb2.mono HB1.out.size))
    have HX2 := Lib.hid hx2
    clear hb2 x0 x1 hw1 hn hx2 ht hxb
    go_wp2_with fail
    refine (get32at (HH.out.below HB2.out) s.name hnm HGB.out).mono ?_
    rintro e w2' ⟨rfl, hww⟩
    subst hww
    have hme := (HH.out.below HB2.out).meas _ (get_some HGB.out)
    simp only at hme
    have hmst : Mst w2 ρ s.name b w2 ρ (M s.name) := ⟨hme, Step.refl (HH.out.below HB2.out).dom⟩
    have c0 := hmst.cells.1
    have hlk := look68ok (a := some (M s.name).sm) hme.ser t (by unfold maxLen; have := HTS.out; omega)
    unfold getV at hlk
    rw [← HME.out, HSV.out] at hlk
    rw [HME.out] at hlk
    have hlk' : (Instr.lookup 68 (.map (some (M s.name).sm)) (.string t) true).run Try.prog w2 = .ok (.tuple #[.agg #[.string sv.sr.name, .slice (adr sv.a) sv.sr.tags.length sv.c], .bool true]) w2 := hlk
    have hb4 := (Below.refl w2.heap.size w2).alloc (Nat.le_refl _) (.cells #[.string sv.sr.name, .slice (adr sv.a) sv.sr.tags.length sv.c] 31)
    obtain ⟨w4, hw4⟩ : ∃ w4, w2.alloc (.cells #[.string sv.sr.name, .slice (adr sv.a) sv.sr.tags.length sv.c] 31) = w4 := ⟨_, rfl⟩
    rw [hw4] at hb4
    have hx4 := stay_below hb4 _ _ _ HX2.out
    have hm4 := hmst.below hb4
    have d0 := hm4.cells.1
    obtain ⟨w5, hrun5, hm5, hst5⟩ := hm4.dropSer (t := t) (by unfold maxLen; have := HTS.out; omega)
    have HX5 := Lib.hid (hst5 _ _ _ hx4)
    have x1 : w5.cell? ⟨xb, 1, none⟩ = some (.slice a n c) := by have := HX5.out; simp [World.cell?, this]
    obtain ⟨μ9, hμ9⟩ : ∃ μ9 : Me, { M s.name with ss := del (M s.name).ss t } = μ9 := ⟨_, rfl⟩
    have h9ss : μ9.ss = del (meOf L M s.name).ss t := by rw [← hμ9, HME.out]
    have h9kd : μ9.kd = (meOf L M s.name).kd := by rw [← hμ9, HME.out]
    have h9A : μ9.A = (meOf L M s.name).A := by rw [← hμ9, HME.out]
    have h9V : μ9.V = (meOf L M s.name).V := by rw [← hμ9, HME.out]
    have h9X : μ9.X = (meOf L M s.name).X := by rw [← hμ9, HME.out]
    rw [hμ9] at hm5
    have HM5 := Lib.hid hm5
    have H9 := Lib.hid (show Full μ9 ∧ BdN μ9 N ∧ (∀ k v t, At μ9 k v t ↔ At (meOf L M s.name) k v t) ∧ μ9.ss = del (meOf L M s.name).ss t ∧ μ9.kd = (meOf L M s.name).kd from
      ⟨full_congr h9A h9V h9X HFULL.out, ⟨by rw [h9A]; exact HBD.out.A, fun k => by rw [h9V]; exact HBD.out.V k, fun k v => by rw [h9X]; exact HBD.out.X k v⟩, at_congr h9A h9V h9X, h9ss, h9kd⟩)
    rw [← hw4] at d0 hrun5
    clear hme hmst hlk hx4 hm4 hb4 hw4 hm5 hst5 hμ9 h9ss h9kd h9A h9V h9X y0
    go_wp2_with fail
    clear x1 hlk' c0 d0 hrun5
    go_loopw [44] (fun i wr => InDrop w2 ρ s.name b μ9 s N n i wr) (fun i _ => n - (intOf i).toNat)
    case atStart => exact ⟨0, μ9, Nat.zero_le _, rfl, HM5.out, rfl, rfl, H9.out.1, H9.out.2.1, fun k v t => by simp⟩
    case round =>
      obtain ⟨k, μr, hkn, rfl, hms, hss, hkd, hfl, hbn, hat⟩ := hrel
      have HMS := Lib.hid hms
      have HSS := Lib.hid hss
      have HKD := Lib.hid hkd
      have HFL := Lib.hid hfl
      have HBN := Lib.hid hbn
      have HAT := Lib.hid hat
      clear hms hss hkd hfl hbn hat
      by_cases hlt : k < n
      · obtain ⟨p, hp⟩ : ∃ p, s.tags[k]? = some p := ⟨_, List.getElem?_eq_getElem (by rw [HN.out]; exact hlt)⟩
        obtain ⟨a', c', hv', _, _, htgr, _, hszr⟩ := HSR0.out.step ((Step.below HH.out.dom HB2.out).trans HMS.out.step) HFR.out (fun h => h)
        injection hv' with hv'
        simp at hv'
        obtain ⟨hv1, _, _⟩ := hv'
        subst hv1
        obtain ⟨tb, off, rfl, _, q0, q1⟩ := htgr k (by rw [HN.out]; exact hlt)
        obtain ⟨e0, e1⟩ := kf_get hp
        rw [e0] at q0
        rw [e1] at q1
        obtain ⟨hk1, hk2⟩ := hszr p (List.mem_of_getElem? hp)
        have hatp : At μr p.1 p.2 t := (HAT.out p.1 p.2 t).2 ⟨(H9.out.2.2.1 _ _ _).2 (HATS.out p (List.mem_of_getElem? hp)), fun ⟨_, h5⟩ => nodup_at HND.out hp h5⟩
        obtain ⟨kb, vb, hgA, hgV, hgX⟩ := at_open hatp
        have HKB := Lib.hid hgA
        have HVB := Lib.hid hgV
        have HP := Lib.hid hp
        have HATN := Lib.hid (fun k' v t => drop_at HAT.out hp k' v t)
        have hbz := (Below.refl wr.heap.size wr).alloc (Nat.le_refl _) (.cells #[.string p.1, .string p.2] 51)
        have hgz := heap_alloc_new wr (.cells #[.string p.1, .string p.2] 51)
        obtain ⟨wz, hwz⟩ : ∃ wz, wr.alloc (.cells #[.string p.1, .string p.2] 51) = wz := ⟨_, rfl⟩
        rw [hwz] at hbz hgz
        obtain ⟨gb, hgb⟩ : ∃ gb, wr.heap.size = gb := ⟨_, rfl⟩
        rw [hgb] at hgz
        have hmz := HMS.out.below hbz
        have c1 := hmz.cells.2
        have g0 : wz.cell? ⟨gb, 0, none⟩ = some (.string p.1) := by simp [World.cell?, hgz]
        have g1 : wz.cell? ⟨gb, 1, none⟩ = some (.string p.2) := by simp [World.cell?, hgz]
        have hm9 := hmz.below ((Below.refl _ _).drew)
        have hla := hm9.lookA hk1
        rw [hgA] at hla
        have hlv := hm9.lookV hgA hk2
        rw [hgV] at hlv
        obtain ⟨w10, hrun10, hm10, hst10⟩ := hm9.lessText hgA hgV (t := t) (by unfold maxLen; have := HTS.out; omega)
        have hg10 := hst10 _ _ _ (stay_below ((Below.refl _ _).drew) _ _ _ hgz)
        have HM10 := Lib.hid hm10
        have HG10 := Lib.hid hg10
        clear hp htgr hszr e0 e1 hbz hgz hmz hatp hgA hgV hgX hm9 hm10 hst10 hg10
        go_wp2_with fail
        clear q0 q1 hwz hgb
        go_region
        go_wp2_with fail
        clear c1 g0 g1 hla hlv hrun10
        obtain ⟨μa, hμa⟩ : ∃ μa, lessText μr p.1 p.2 t = μa := ⟨_, rfl⟩
        rw [hμa] at HM10
        have HKA := Lib.hid (show get μa.A p.1 = some kb by rw [← hμa]; exact HKB.out)
        have HVA := Lib.hid (show get (μa.V p.1) p.2 = some vb by rw [← hμa]; exact HVB.out)
        have HSA := Lib.hid (show μa.ss = μ9.ss by rw [← hμa]; exact HSS.out)
        have HDA := Lib.hid (show μa.kd = μ9.kd by rw [← hμa]; exact HKD.out)
        have HBA := Lib.hid (show BdN μa N by rw [← hμa]; exact bd_lessText HBN.out _ _ _)
        have HTA := Lib.hid (show ∀ k' v t', At μa k' v t' ↔ At μ9 k' v t' ∧ ¬ (t' = s.txt ∧ (k', v) ∈ s.tags.take (k + 1)) from fun k' v t' => by
          rw [← hμa, at_lessText, ← HTXT.out]
          exact HATN.out k' v t')
        have HXA := Lib.hid (show μa.X p.1 p.2 = del (μr.X p.1 p.2) t by rw [← hμa]; exact updF2_same _ _ _ _)
        have HFA := Lib.hid (show (del (μr.X p.1 p.2) t ≠ [] → FullV μa p.1) ∧ FullV (lessVal μa p.1 p.2) p.1 from ⟨fun h => by rw [← hμa]; exact fullV_lessText HFL.out h, by rw [← hμa]; exact fullV_lessVal HFL.out⟩)
        clear hμa
        refine wp_gen (fun w' => Mst w2 ρ s.name b w' ρ μa ∧ w'.heap[gb]? = some (.cells #[.string p.1, .string p.2] 51 (0, 0))) ⟨HM10.out, HG10.out⟩ ?_
        rintro wa ⟨hmwa, hgwa⟩
        have HMwa := Lib.hid hmwa
        have HGwa := Lib.hid hgwa
        have c1 := hmwa.cells.2
        have g0 : wa.cell? ⟨gb, 0, none⟩ = some (.string p.1) := by simp [World.cell?, hgwa]
        have g1 : wa.cell? ⟨gb, 1, none⟩ = some (.string p.2) := by simp [World.cell?, hgwa]
        clear hmwa hgwa
        have hla : ∀ q, (Instr.lookup 69 (.map (some μa.tm)) (.string p.1) false).run Try.prog (wa.drewN q) = .ok (.map (some kb)) (wa.drewN q) := fun q => by
          have := (HMwa.out.below (below_drewN' (Below.refl _ _) q)).lookA hk1
          rw [HKA.out] at this
          exact this
        have hlv : ∀ q, (Instr.lookup 74 (.map (some kb)) (.string p.2) false).run Try.prog (wa.drewN q) = .ok (.map (some vb)) (wa.drewN q) := fun q => by
          have := (HMwa.out.below (below_drewN' (Below.refl _ _) q)).lookV HKA.out hk2
          rw [HVA.out] at this
          exact this
        have hlen : ∀ q ty, (Builtin.len_ #[75] ty #[.map (some vb)]).run Try.prog (wa.drewN q) = .ok (.int .i64 (del (μr.X p.1 p.2) t).length) (wa.drewN q) := fun q ty => by
          have := (HMwa.out.below (below_drewN' (Below.refl _ _) q)).lenX HKA.out HVA.out ty
          rw [HXA.out] at this
          exact this
        by_cases hxe : del (μr.X p.1 p.2) t = []
        · have hz : ((((del (μr.X p.1 p.2) t).length : Nat) : Int) == 0) = true := by rw [hxe]; rfl
          have HXE := Lib.hid hxe
          clear hxe
          go_quiet (fail)
          go_wp2_with fail
          clear c1 g0 g1 hla hlv hlen hz
          refine wp_gen (fun w' => Mst w2 ρ s.name b w' ρ μa ∧ w'.heap[gb]? = some (.cells #[.string p.1, .string p.2] 51 (0, 0))) ⟨HMwa.out.below (below_drewN' (Below.refl _ _) _), HGwa.out⟩ ?_
          rintro wb ⟨hmwb, hgwb⟩
          have HMwb := Lib.hid hmwb
          have HGwb := Lib.hid hgwb
          have c1 := hmwb.cells.2
          have g0 : wb.cell? ⟨gb, 0, none⟩ = some (.string p.1) := by simp [World.cell?, hgwb]
          have g1 : wb.cell? ⟨gb, 1, none⟩ = some (.string p.2) := by simp [World.cell?, hgwb]
          clear hmwb hgwb
          have hm9 := HMwb.out.below ((Below.refl _ _).drew)
          have hla := hm9.lookA hk1
          rw [HKA.out] at hla
          obtain ⟨w12, hrun12, hm12, hst12⟩ := hm9.lessVal HKA.out hk2
          have HM12 := Lib.hid hm12
          have HG12 := Lib.hid (hst12 _ _ _ (stay_below ((Below.refl _ _).drew) _ _ _ HGwb.out))
          clear hm9 hm12 hst12
          go_region
          go_wp2_with fail
          clear c1 g0 g1 hla hrun12
          obtain ⟨μb, hμb⟩ : ∃ μb, lessVal μa p.1 p.2 = μb := ⟨_, rfl⟩
          rw [hμb] at HM12 HFA
          have HKC := Lib.hid (show get μb.A p.1 = some kb by rw [← hμb]; exact HKA.out)
          have HSB := Lib.hid (show μb.ss = μ9.ss by rw [← hμb]; exact HSA.out)
          have HDB := Lib.hid (show μb.kd = μ9.kd by rw [← hμb]; exact HDA.out)
          have HBB := Lib.hid (show BdN μb N by rw [← hμb]; exact bd_lessVal HBA.out _ _)
          have HTB := Lib.hid (show ∀ k' v t', At μb k' v t' ↔ At μ9 k' v t' ∧ ¬ (t' = s.txt ∧ (k', v) ∈ s.tags.take (k + 1)) from fun k' v t' => by
            rw [← hμb, at_lessVal (by rw [texts_some (by rw [vals_some HKA.out]; exact HVA.out), HXA.out]; exact HXE.out)]
            exact HTA.out k' v t')
          clear hμb
          refine wp_gen (fun w' => Mst w2 ρ s.name b w' ρ μb ∧ w'.heap[gb]? = some (.cells #[.string p.1, .string p.2] 51 (0, 0))) ⟨HM12.out, HG12.out⟩ ?_
          rintro wc ⟨hmwc, hgwc⟩
          have HMwc := Lib.hid hmwc
          have HGwc := Lib.hid hgwc
          have c1 := hmwc.cells.2
          have g0 : wc.cell? ⟨gb, 0, none⟩ = some (.string p.1) := by simp [World.cell?, hgwc]
          have g1 : wc.cell? ⟨gb, 1, none⟩ = some (.string p.2) := by simp [World.cell?, hgwc]
          clear hmwc hgwc
          have hla : ∀ q, (Instr.lookup 69 (.map (some μb.tm)) (.string p.1) false).run Try.prog (wc.drewN q) = .ok (.map (some kb)) (wc.drewN q) := fun q => by
            have := (HMwc.out.below (below_drewN' (Below.refl _ _) q)).lookA hk1
            rw [HKC.out] at this
            exact this
          have hlen : ∀ q ty, (Builtin.len_ #[74] ty #[.map (some kb)]).run Try.prog (wc.drewN q) = .ok (.int .i64 (μb.V p.1).length) (wc.drewN q) := fun q ty => (HMwc.out.below (below_drewN' (Below.refl _ _) q)).lenV HKC.out ty
          by_cases hve : μb.V p.1 = []
          · have hz : ((((μb.V p.1).length : Nat) : Int) == 0) = true := by rw [hve]; rfl
            have HVE := Lib.hid hve
            clear hve
            go_quiet (fail)
            go_wp2_with fail
            clear c1 g0 g1 hla hlen hz
            refine wp_gen (fun w' => Mst w2 ρ s.name b w' ρ μb ∧ w'.heap[gb]? = some (.cells #[.string p.1, .string p.2] 51 (0, 0))) ⟨HMwc.out.below (below_drewN' (Below.refl _ _) _), HGwc.out⟩ ?_
            rintro wx ⟨hmwx, hgwx⟩
            have HMwx := Lib.hid hmwx
            have HGwx := Lib.hid hgwx
            have c1 := hmwx.cells.2
            have g0 : wx.cell? ⟨gb, 0, none⟩ = some (.string p.1) := by simp [World.cell?, hgwx]
            have g1 : wx.cell? ⟨gb, 1, none⟩ = some (.string p.2) := by simp [World.cell?, hgwx]
            clear hmwx hgwx
            have hm9 := HMwx.out.below ((Below.refl _ _).drew)
            obtain ⟨w14, hrun14, hm14, hst14⟩ := hm9.lessKey hk1
            have HM14 := Lib.hid hm14
            clear hm9 hm14 hst14
            go_region
            go_wp2_with fail
            clear c1 g0 g1 hrun14
            go_roundw
            case rel =>
              refine ⟨k + 1, _, by omega, by go_num, HM14.out, HSB.out, HDB.out, (HFA.out.2).less, bd_lessKey HBB.out _, fun k' v t' => ?_⟩
              rw [at_lessKey (by rw [vals_some HKC.out]; exact HVE.out)]
              exact HTB.out k' v t'
            case measure => simp [intOf]; omega
          · have hz : ((((μb.V p.1).length : Nat) : Int) == 0) = false := by rw [len_zero, decide_eq_false hve]
            have HVE := Lib.hid hve
            clear hve
            go_quiet (fail)
            go_wp2_with fail
            go_roundw
            case rel => exact ⟨k + 1, _, by omega, by go_num, HMwc.out.below (below_drewN' (Below.refl _ _) _), HSB.out, HDB.out, (HFA.out.2).full HVE.out, HBB.out, HTB.out⟩
            case measure => simp [intOf]; omega
        · have hz : ((((del (μr.X p.1 p.2) t).length : Nat) : Int) == 0) = false := by rw [len_zero, decide_eq_false hxe]
          have HXE := Lib.hid hxe
          clear hxe
          go_quiet (fail)
          go_wp2_with fail
          clear c1 g0 g1 hla hlv hlen hz
          refine wp_gen (fun w' => Mst w2 ρ s.name b w' ρ μa ∧ w'.heap[gb]? = some (.cells #[.string p.1, .string p.2] 51 (0, 0))) ⟨HMwa.out.below (below_drewN' (Below.refl _ _) _), HGwa.out⟩ ?_
          rintro wc ⟨hmwc, hgwc⟩
          have HMwc := Lib.hid hmwc
          have HGwc := Lib.hid hgwc
          have c1 := hmwc.cells.2
          have g0 : wc.cell? ⟨gb, 0, none⟩ = some (.string p.1) := by simp [World.cell?, hgwc]
          have g1 : wc.cell? ⟨gb, 1, none⟩ = some (.string p.2) := by simp [World.cell?, hgwc]
          clear hmwc hgwc
          have hla : ∀ q, (Instr.lookup 69 (.map (some μa.tm)) (.string p.1) false).run Try.prog (wc.drewN q) = .ok (.map (some kb)) (wc.drewN q) := fun q => by
            have := (HMwc.out.below (below_drewN' (Below.refl _ _) q)).lookA hk1
            rw [HKA.out] at this
            exact this
          have hlen : ∀ q ty, (Builtin.len_ #[74] ty #[.map (some kb)]).run Try.prog (wc.drewN q) = .ok (.int .i64 (μa.V p.1).length) (wc.drewN q) := fun q ty => (HMwc.out.below (below_drewN' (Below.refl _ _) q)).lenV HKA.out ty
          by_cases hve : μa.V p.1 = []
          · have hz : ((((μa.V p.1).length : Nat) : Int) == 0) = true := by rw [hve]; rfl
            have HVE := Lib.hid hve
            clear hve
            go_quiet (fail)
            go_wp2_with fail
            clear c1 g0 g1 hla hlen hz
            refine wp_gen (fun w' => Mst w2 ρ s.name b w' ρ μa ∧ w'.heap[gb]? = some (.cells #[.string p.1, .string p.2] 51 (0, 0))) ⟨HMwc.out.below (below_drewN' (Below.refl _ _) _), HGwc.out⟩ ?_
            rintro wx ⟨hmwx, hgwx⟩
            have HMwx := Lib.hid hmwx
            have HGwx := Lib.hid hgwx
            have c1 := hmwx.cells.2
            have g0 : wx.cell? ⟨gb, 0, none⟩ = some (.string p.1) := by simp [World.cell?, hgwx]
            have g1 : wx.cell? ⟨gb, 1, none⟩ = some (.string p.2) := by simp [World.cell?, hgwx]
            clear hmwx hgwx
            have hm9 := HMwx.out.below ((Below.refl _ _).drew)
            obtain ⟨w14, hrun14, hm14, hst14⟩ := hm9.lessKey hk1
            have HM14 := Lib.hid hm14
            clear hm9 hm14 hst14
            go_region
            go_wp2_with fail
            clear c1 g0 g1 hrun14
            go_roundw
            case rel =>
              refine ⟨k + 1, _, by omega, by go_num, HM14.out, HSA.out, HDA.out, (HFA.out.1 HXE.out).less, bd_lessKey HBA.out _, fun k' v t' => ?_⟩
              rw [at_lessKey (by rw [vals_some HKA.out]; exact HVE.out)]
              exact HTA.out k' v t'
            case measure => simp [intOf]; omega
          · have hz : ((((μa.V p.1).length : Nat) : Int) == 0) = false := by rw [len_zero, decide_eq_false hve]
            have HVE := Lib.hid hve
            clear hve
            go_quiet (fail)
            go_wp2_with fail
            go_roundw
            case rel => exact ⟨k + 1, _, by omega, by go_num, HMwc.out.below (below_drewN' (Below.refl _ _) _), HSA.out, HDA.out, (HFA.out.1 HXE.out).full HVE.out, HBA.out, HTA.out⟩
            case measure => simp [intOf]; omega
      · have hk : k = n := by omega
        have HK := Lib.hid hk
        clear hk
        go_wp2_with fail
        go_ret
        obtain ⟨hc9, hmo9⟩ := (Chg.below HH.out _ HB2.out).next HGB.out HMS.out.me HMS.out.step
        refine ⟨_, by rw [HA.out]; rfl, hc9, (fun h => by rw [HA.out] at h; cases h), fun _ => ⟨?_, ?_, ?_, ?_, ?_⟩⟩
        · rw [hmo9, HSS.out, H9.out.2.2.2.1, HTXT.out]
        · rw [hmo9, HKD.out, H9.out.2.2.2.2]
        · rw [hmo9]; exact HFL.out
        · rw [hmo9]; exact HBN.out
        · intro k' v t'
          rw [hmo9, HAT.out, H9.out.2.2.1, List.take_of_length_le (by rw [HN.out, HK.out]; exact Nat.le_refl _)]
  · have HA := Lib.hid (show dropA (meOf L M s.name) s = false by
      unfold dropA
      cases h1 : s.ok with
      | false => rfl
      | true =>
        cases h2 : (get (meOf L M s.name).ss s.txt).isSome with
        | false => rfl
        | true => exact absurd ⟨h1, h2⟩ hgo)
    cases hok : s.ok with
    | false =>
      have HTX := Lib.hid (no_tx hok)
      clear hok hgo
      rw [HTX.out] at HT
      simp only [hn]
      go_enter Try.func17, Try.ntmps17
      go_wp2_with fail
      refine HT.out.mono ?_
      rintro e w2 ⟨rfl, hb2⟩
      have hx2 := (hb2.block xb (heap_lt HX1.out)).trans HX1.out
      have y0 : w2.cell? ⟨xb, 0, none⟩ = some (.string s.name) := by simp [World.cell?, hx2]
      have HB2 := Lib.hid (HB1.out.trans (hb2.mono HB1.out.size))
      clear hb2 x0 x1 hw1 hn hx2 hxb
      go_wp2_with fail
      refine (get32 (HH.out.below HB2.out) s.name hnm).mono ?_
      intro e w3 hp
      unfold GotPost at hp
      obtain ⟨g, ga, gb, gc, he, hv, hb3⟩ := hp
      subst he
      have hblk := hv.blk
      have c0 : w3.cell? ⟨g, 0, none⟩ = some (.map ga) := by simp [World.cell?, hblk]
      have hlk := look68ok (a := ga) hv.ser ⟨#[]⟩ (Nat.zero_le _)
      obtain ⟨n4, a4, l4, c4, hs4⟩ := serAgg (meOf L M s.name).ss ⟨#[]⟩
      rw [hs4] at hlk
      obtain ⟨b4, hb4⟩ : ∃ b4, (get (meOf L M s.name).ss (⟨#[]⟩ : BA)).isSome = b4 := ⟨_, rfl⟩
      rw [hb4] at hlk
      have hlk' : (Instr.lookup 68 (.map ga) (.string ⟨#[]⟩) true).run Try.prog w3 = .ok (.tuple #[.agg #[.string n4, .slice a4 l4 c4], .bool b4]) w3 := hlk
      clear hs4 hb4
      have HB3 := Lib.hid (HB2.out.trans (hb3.mono HB2.out.size))
      clear hblk hv hb3 y0 hlk
      go_wp2_with fail
      go_ret
      exact ⟨M, by rw [HA.out]; rfl, Chg.below HH.out _ (HB3.out.trans (((Below.refl _ _).alloc (Nat.le_refl _) _).mono HB3.out.size)), fun _ => SameMe.refl _, fun h => by rw [HA.out] at h; cases h⟩
    | true =>
      have HTX := Lib.hid (ok_tx hok)
      have HTS := Lib.hid (txt_size hok)
      obtain ⟨t, ht⟩ : ∃ t, s.txt = t := ⟨_, rfl⟩
      have HNO := Lib.hid (show get (meOf L M s.name).ss t = none by
        cases h2 : get (meOf L M s.name).ss t with
        | none => rfl
        | some sv => exact absurd ⟨hok, by rw [ht, h2]; rfl⟩ hgo)
      rw [ht] at HTX HTS
      clear hok hgo ht
      rw [HTX.out] at HT
      simp only [hn]
      go_enter Try.func17, Try.ntmps17
      go_wp2_with fail
      refine HT.out.mono ?_
      rintro e w2 ⟨rfl, hb2⟩
      have hx2 := (hb2.block xb (heap_lt HX1.out)).trans HX1.out
      have y0 : w2.cell? ⟨xb, 0, none⟩ = some (.string s.name) := by simp [World.cell?, hx2]
      have HB2 := Lib.hid (HB1.out.trans (hb2.mono HB1.out.size))
      clear hb2 x0 x1 hw1 hn hx2 hxb
      go_wp2_with fail
      refine (get32 (HH.out.below HB2.out) s.name hnm).mono ?_
      intro e w3 hp
      unfold GotPost at hp
      obtain ⟨g, ga, gb, gc, he, hv, hb3⟩ := hp
      subst he
      have hblk := hv.blk
      have c0 : w3.cell? ⟨g, 0, none⟩ = some (.map ga) := by simp [World.cell?, hblk]
      have hlk := look68ok (a := ga) hv.ser t (by unfold maxLen; have := HTS.out; omega)
      unfold getV at hlk
      rw [HNO.out] at hlk
      have hlk' : (Instr.lookup 68 (.map ga) (.string t) true).run Try.prog w3 = .ok (.tuple #[.agg #[.string ⟨#[]⟩, .slice none 0 0], .bool false]) w3 := hlk
      have HB3 := Lib.hid (HB2.out.trans (hb3.mono HB2.out.size))
      clear hblk hv hb3 y0 hlk
      go_wp2_with fail
      go_ret
      exact ⟨M, by rw [HA.out]; rfl, Chg.below HH.out _ (HB3.out.trans (((Below.refl _ _).alloc (Nat.le_refl _) _).mono HB3.out.size)), fun _ => SameMe.refl _, fun h => by rw [HA.out] at h; cases h⟩
end Go.Proofs.Ytobcpafalfdpkaa
