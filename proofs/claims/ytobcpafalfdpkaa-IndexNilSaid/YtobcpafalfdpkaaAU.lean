/- The walk of IndexParts. Condition: the reach of the list that comes in. -/
import Derived.Test.YtobcpafalfdpkaaAS
import Derived.StillTailTactics
import Derived.BigQuiet
namespace Go.Proofs.Ytobcpafalfdpkaa
open Go.RowKit Go.WideMaps Go.Sort Go.Deep Go.WideShapes Go.ChangeShapes
def InAdds (W : World) (x m n : Nat) (i : Value) (wr : World) : Prop :=
  ∃ (k : Nat) (ρ : Nat → Option Role) (L : List (BA × Nat)) (M : BA → Me), k ≤ n ∧ i = .int .i64 k ∧ Good wr ρ x m L M k ∧ Below W.heap.size W wr ∧ ∀ b, ρ b ≠ none → W.heap.size ≤ b
def InLow (w2 : World) (n : Nat) (i : Value) (wr : World) : Prop := ∃ k : Nat, k ≤ n ∧ i = .int .i64 k ∧ Below w2.heap.size w2 wr
def InSum (w2 : World) (c0 : Nat) (V : List BA) (g : BA → Nat) (n : Nat) (c i : Value) (wr : World) : Prop := ∃ k : Nat, k ≤ n ∧ i = .int .i64 k ∧ c = .int .i64 ((c0 + ps V g k : Nat) : Int) ∧ Below w2.heap.size w2 wr
theorem roles_step {W w w' : World} {ρ ρ' : Nat → Option Role} {Q : Role → Prop} (hr : ∀ b, ρ b ≠ none → W.heap.size ≤ b) (hs : Step w w' ρ ρ' Q) (hb : W.heap.size ≤ w.heap.size) : ∀ b, ρ' b ≠ none → W.heap.size ≤ b := fun b h => by
  rcases Nat.lt_or_ge b w.heap.size with hlt | hge
  · rw [hs.role b hlt] at h; exact hr b h
  · omega
theorem ser_in {W wr : World} {b off : Nat} {s : Sr} (h : SerIn W b off s) (hb : Below W.heap.size W wr) (hlt : b < W.heap.size) : SerIn wr b off s := by
  obtain ⟨a, c, h0, h1, h2⟩ := h
  have hk := hb.block b hlt
  exact ⟨a, c, (World.cell?_of_block (a := ⟨b, off, none⟩) hk).trans h0, (World.cell?_of_block (a := ⟨b, off + 1, none⟩) hk).trans h1, h2.later hb⟩
theorem free_in {W : World} {ρ : Nat → Option Role} (hr : ∀ b, ρ b ≠ none → W.heap.size ≤ b) {nm : Value} {a : Option Addr} {n c : Nat} {s : Sr} (h : SrIn W (.agg #[nm, .slice a n c]) s) : FreeV ρ (.agg #[nm, .slice a n c]) := fun nm' a' n' c' e hne r hq => by
  injection e with e
  simp at e
  obtain ⟨rfl, rfl, rfl, rfl⟩ := e
  have hlt := h.block hne
  have := hr a'.block (by rw [hq]; simp)
  omega
set_option maxRecDepth 100000 in
set_option maxHeartbeats 4000000 in
theorem indexParts_walk (H : Type) (enc : TypeId × Value → H) (W : World) (base : Nat) (v0 v1 : Value) (d0 d1 : DataW H) (p0 p1 : List MemPlace) (h0 : DataW.Trod enc Try.prog W 0 (fun _ => true) true 22 v0 d0 p0) (o0 : Value.okWide Try.prog W .any base 22 v0) (h1 : DataW.Trod enc Try.prog W 0 (fun _ => true) true 9 v1 d1 p1) (o1 : Value.okWide Try.prog W .any base 9 v1) (hsz : (DataW.weightsEach Try.prog [22, 9] [d0, d1]).all (· ≤ reachBytes) = true) :
    Calls Try.prog 3 #[v0, v1] W fun e w' => e = .returned (.bool true) ∧ Below W.heap.size W w' := by
  obtain ⟨a0, n, c0, X, rfl, _, _, hX⟩ := sers_open h0 o0
  have hn := sers_sized h0 (j := 0) rfl rfl hsz
  obtain ⟨fuel, hf1⟩ := h1
  obtain ⟨key, hk0, _, hkey⟩ := DataW.trod_string Try.underlying9 hf1
  obtain rfl : v1 = .string key := by
    obtain ⟨s, rfl⟩ := okWide_string Try.underlying9 o1
    simpa [Value.cells] using hk0
  have HX := Lib.hid hX
  clear h0 o0 o1 hsz hf1 hk0 hX
  go_enter Try.func3, Try.ntmps3
  go_wp2_with fail
  refine (awake7 W).mono ?_
  rintro e w0 ⟨rfl, hb0⟩
  have HB0 := Lib.hid hb0
  clear hb0
  go_wp2_with fail
  refine (new8 w0).mono ?_
  rintro e w1 ⟨rfl, hidx, hb1, hfr⟩
  obtain ⟨x, hx⟩ : ∃ x, w0.heap.size + 1 = x := ⟨_, rfl⟩
  obtain ⟨m, hm⟩ : ∃ m, w0.heap.size = m := ⟨_, rfl⟩
  rw [hx, hm] at hidx
  rw [hm] at hfr
  rw [hx]
  have HG1 := Lib.hid (new_good hidx)
  have HB1 := Lib.hid (HB0.out.trans (hb1.mono HB0.out.size))
  have HFR := Lib.hid (fun b hb => Nat.le_trans HB0.out.size (by rw [hm]; exact hfr b hb) : ∀ b, role0 m b ≠ none → W.heap.size ≤ b)
  clear hidx hb1 hfr hx hm
  go_wp2_with fail
  go_loopw [21] (fun i wr => InAdds W x m n i wr) (fun i _ => n - (intOf i).toNat)
  case atStart => exact ⟨0, _, _, _, Nat.zero_le _, rfl, HG1.out, HB1.out, HFR.out⟩
  case round =>
    obtain ⟨k, ρ, L, M, hkn, rfl, hg, hb, hfr⟩ := hrel
    have HG := Lib.hid hg
    have HB := Lib.hid hb
    have HF := Lib.hid hfr
    clear hg hb hfr
    by_cases hlt : k < n
    · obtain ⟨b, off, rfl, hbl, hser⟩ := HX.out k hlt
      obtain ⟨sa, sc, q0, q1, hsr⟩ := ser_in hser HB.out hbl
      have HA := Lib.hid (add_good HG.out (by omega) hsr (free_in HF.out (show SrIn W _ (X k) from by
        obtain ⟨a', c', g0, g1, g2⟩ := hser
        have e0 : wr.cell? ⟨b, off + k * 2 + 1, none⟩ = some (.slice a' (X k).tags.length c') := (World.cell?_of_block (a := ⟨b, off + k * 2 + 1, none⟩) (HB.out.block b hbl)).trans g1
        rw [q1] at e0
        injection e0 with e0
        rw [e0]
        exact g2)))
      clear hser hsr
      obtain ⟨tn, htn⟩ : ∃ tn, (X k).tags.length = tn := ⟨_, rfl⟩
      rw [htn] at q1 HA
      clear htn
      go_wp2_with fail
      clear q0 q1
      refine HA.out.mono ?_
      intro e w3 hp
      unfold AddGood at hp
      obtain ⟨ρ', L', M', he, hg3, hst, _⟩ := hp
      subst he
      have HG3 := Lib.hid hg3
      have HST := Lib.hid hst
      clear hg3 hst
      go_wp2_with fail
      go_roundw
      case rel =>
        have hf3 := roles_step HF.out HST.out HB.out.size
        exact ⟨k + 1, ρ', L', M', by omega, by go_num, HG3.out, HB.out.trans (HST.out.toBelow HF.out HB.out.size), hf3⟩
      case measure => simp [intOf]; omega
    · have hk : k = n := by omega
      subst hk
      have HNM := Lib.hid (names10 HG.out.idx (Nat.le_trans HG.out.few (by omega)) fun p hp => Nat.le_trans (HG.out.lens p hp) (by omega))
      clear hlt
      go_wp2_with fail
      refine HNM.out.mono ?_
      rintro e w2 ⟨nv, rfl, hnr, hb2⟩
      obtain ⟨T, hT⟩ : ∃ T, namesOf L M = T := ⟨_, rfl⟩
      rw [hT] at hnr
      have HTN := Lib.hid (fun nm hnm => names_in HG.out.idx (by rw [hT]; exact hnm) : ∀ nm ∈ T, 0 < (meOf L M nm).ss.length)
      obtain ⟨nn, hnn⟩ : ∃ nn, T.length = nn := ⟨_, rfl⟩
      rw [hnn] at hnr
      obtain ⟨na, nc, rfl⟩ := row_form hnr
      have HNR := Lib.hid hnr
      have HNN := Lib.hid hnn
      have HG2 := Lib.hid (HG.out.later hb2)
      have HB2 := Lib.hid (HB.out.trans (hb2.mono HB.out.size))
      have HNL := Lib.hid (show nn < 2 ^ 63 by
        rcases hnr.2 with ⟨_, h0⟩ | ⟨g, c', cur, hv, _, _, hle, hmx, _⟩
        · omega
        · unfold maxLen at hmx; omega)
      have hnl := HNL.out
      clear hnr hnn hb2 hT HNM
      go_wp2_with fail
      go_loopw [35] (fun i wr => InLow w2 nn i wr) (fun i _ => nn - (intOf i).toNat)
      case atStart => exact ⟨0, Nat.zero_le _, rfl, Below.refl _ _⟩
      case round =>
        rename World => wo
        obtain ⟨j, hjn, rfl, hb⟩ := hrel
        have HBO := Lib.hid hb
        clear hb
        by_cases hlt : j < nn
        · obtain ⟨nm, hnm⟩ : ∃ nm, T[j]? = some nm := ⟨_, List.getElem?_eq_getElem (by rw [HNN.out]; exact hlt)⟩
          have hpos := HTN.out nm (List.mem_of_getElem? hnm)
          have hnm64 := HG2.out.name hpos
          obtain ⟨ng, rfl, q0⟩ := str_cell (row_later HNR.out HBO.out) HNN.out hnm
          obtain ⟨μ, hμ⟩ : ∃ μ, meOf L M nm = μ := ⟨_, rfl⟩
          have hme : MeOk nm μ := by rw [← hμ]; exact HG2.out.me nm
          have hri : Rises μ := by rw [← hμ]; exact HG2.out.rises nm
          have hbd : Bd μ := by rw [← hμ]; exact HG2.out.bdd (by omega) nm
          rw [hμ] at hpos
          have HME := Lib.hid hme
          have HRI := Lib.hid hri
          have HBD := Lib.hid hbd
          have HPOS := Lib.hid hpos
          have HMU := Lib.hid hμ
          have HNM := Lib.hid hnm
          have HLT := Lib.hid hlt
          have HW := Lib.hid (show Calls Try.prog 11 #[.pointer (some ⟨x, 0, none⟩), .string nm, .string key, .string ⟨#[]⟩] wo (SersPost wo ((withT μ key ⟨#[]⟩).map (srOf μ))) by
            have := with11e (HG2.out.idx.gets.later HBO.out) nm key (by unfold maxLen; omega) (by rw [hμ]; exact hbd)
            rw [hμ] at this
            exact this)
          clear hme hri hbd hpos hμ hnm
          go_wp2_with fail
          refine HW.out.mono ?_
          rintro e w3 ⟨v3, L3, rfl, hm3, hr3, _, hb3⟩
          have hl3 : L3.length = (withT μ key ⟨#[]⟩).length := by
            have := congrArg List.length hm3
            simpa using this
          obtain ⟨c0, hc0⟩ : ∃ c0, (withT μ key ⟨#[]⟩).length = c0 := ⟨_, rfl⟩
          rw [hc0] at hl3
          rw [hl3] at hr3
          have hc0l : c0 ≤ 3518437208780 := by rw [← hc0]; exact Nat.le_trans (withT_len HME.out HRI.out _ _) HBD.out.ss
          obtain ⟨a3, c3, rfl⟩ := row_form hr3
          have HB3 := Lib.hid (HBO.out.trans (hb3.mono HBO.out.size))
          have HC0 := Lib.hid hc0
          have q0' := (World.cell?_of_block (a := ⟨ng, j, none⟩) (hb3.block ng (cell_lt q0))).trans q0
          have HV := Lib.hid (show Calls Try.prog 12 #[.pointer (some ⟨x, 0, none⟩), .string nm, .string key] w3 (StrPost w3 ((valsOf μ key).map (·.1))) by
            have := values12 (HG2.out.idx.gets.later HB3.out) nm key (by unfold maxLen; omega) hkey (by rw [HMU.out]; exact HBD.out)
            rw [HMU.out] at this
            exact this)
          clear hm3 hr3 hb3 hl3 hc0 q0 HW
          have q0 := q0'
          clear q0'
          go_wp2_with fail
          clear q0
          refine HV.out.mono ?_
          rintro e w4 ⟨v4, rfl, hr4, hb4⟩
          obtain ⟨V, hV⟩ : ∃ V, (valsOf μ key).map (·.1) = V := ⟨_, rfl⟩
          rw [hV] at hr4
          obtain ⟨nv, hnv⟩ : ∃ nv, V.length = nv := ⟨_, rfl⟩
          rw [hnv] at hr4
          obtain ⟨a4, c4, rfl⟩ := row_form hr4
          have hnvl : nv ≤ 3518437208780 := by rw [← hnv, ← hV, List.length_map]; exact HBD.out.V key
          have HVL := Lib.hid hV
          have HNV := Lib.hid hnv
          have HR4 := Lib.hid hr4
          have HB4 := Lib.hid (HB3.out.trans (hb4.mono HB3.out.size))
          have HSUM := Lib.hid (show μ.ss.length = c0 + (V.map fun v => (withT μ key v).length).sum by
            rw [parts_with HME.out HRI.out key, HC0.out, hV])
          obtain ⟨g, hgg⟩ : ∃ g : BA → Nat, (fun v => (withT μ key v).length) = g := ⟨_, rfl⟩
          have HGG := Lib.hid hgg
          rw [hgg] at HSUM
          clear hV hnv hr4 hb4 hgg HV
          go_wp2_with fail
          go_loopw [9, 55] (fun c i wr => InSum w4 c0 V g nv c i wr) (fun _ i _ => nv - (intOf i).toNat)
          case atStart => exact ⟨0, Nat.zero_le _, rfl, rfl, Below.refl _ _⟩
          case round =>
            rename World => wp
            obtain ⟨l, hln, rfl, rfl, hb⟩ := hrel
            have HBP := Lib.hid hb
            clear hb
            have hps := ps_le V g l
            have hss := HSUM.out
            have hssb := HBD.out.ss
            obtain ⟨cn, hcn⟩ : ∃ cn, c0 + ps V g l = cn := ⟨_, rfl⟩
            have hcnl : cn ≤ 3518437208780 := by omega
            rw [hcn]
            have HCN := Lib.hid hcn
            clear hps hss hssb hcn
            by_cases hlv : l < nv
            · obtain ⟨val, hval⟩ : ∃ val, V[l]? = some val := ⟨_, List.getElem?_eq_getElem (by rw [HNV.out]; exact hlv)⟩
              have hvm : val ∈ (valsOf μ key).map (·.1) := by rw [HVL.out]; exact List.mem_of_getElem? hval
              have hne := vals_ne HME.out HRI.out hvm
              have hvs := vals_size HME.out HRI.out hvm
              have hbpo := HB4.out.trans (HBP.out.mono HB4.out.size)
              obtain ⟨ng', eng, q0⟩ := str_cell (row_later HNR.out hbpo) HNN.out HNM.out
              obtain rfl : ng = ng' := by injection eng with e; injection e with e
              obtain ⟨vg, rfl, r0⟩ := str_cell (row_later HR4.out HBP.out) HNV.out hval
              have HW := Lib.hid (show Calls Try.prog 11 #[.pointer (some ⟨x, 0, none⟩), .string nm, .string key, .string val] wp.drew (SersPost wp.drew ((withT μ key val).map (srOf μ))) by
                have := with11v (HG2.out.idx.gets.later (hbpo.trans (Below.refl _ _).drew)) nm key val (by unfold maxLen; omega) hkey (by unfold maxLen; omega) (by rw [HMU.out]; exact HBD.out) hne (by rw [HMU.out]; exact texts_sub HME.out key val)
                rw [HMU.out] at this
                exact this)
              have HNE := Lib.hid hne
              have HVA := Lib.hid hval
              have hlt := HLT.out
              clear hvm hne hbpo eng hval
              go_wp2_with fail
              go_still_tail 10, (by kernel_rfl)
              change wpList _ _ _ _ _ wp.drew
              obtain ⟨wd, hwd⟩ : ∃ wd, wp.drew = wd := ⟨_, rfl⟩
              have HBD2 := Lib.hid (show Below w4.heap.size w4 wd by rw [← hwd]; exact HBP.out.drew)
              rw [hwd] at HW ⊢
              clear q0 r0 hwd
              go_wp2_with fail
              refine HW.out.mono ?_
              rintro e w5 ⟨v5, L5, rfl, hm5, hr5, hs5, hb5⟩
              have hl5 : L5.length = g val := by
                have := congrArg List.length hm5
                rw [List.length_map, List.length_map] at this
                rw [this, ← HGG.out]
              obtain ⟨n5, hn5⟩ : ∃ n5, g val = n5 := ⟨_, rfl⟩
              rw [hn5] at hl5
              rw [hl5] at hr5
              have hps := ps_succ (g := g) HVA.out
              have hpl := ps_le V g (l + 1)
              have hss := HSUM.out
              have hssb := HBD.out.ss
              have hcc := HCN.out
              have hn5l : cn + n5 ≤ 3518437208780 := by omega
              have HCN5 := Lib.hid (show c0 + ps V g (l + 1) = cn + n5 by omega)
              obtain ⟨a5, c5, rfl⟩ := row_form hr5
              have HR5 := Lib.hid hr5
              have HL5 := Lib.hid hl5
              have HS5 := Lib.hid hs5
              have HM5 := Lib.hid hm5
              have HB5 := Lib.hid (HBD2.out.trans (hb5.mono HBD2.out.size))
              have HB5' := Lib.hid hb5
              clear hm5 hl5 hr5 hs5 hb5 hn5 hps hpl hss hssb hcc HW
              go_wp2_with fail
              go_loopw [71] (fun i wr => InLow w5 n5 i wr) (fun i _ => n5 - (intOf i).toNat)
              case atStart => exact ⟨0, Nat.zero_le _, rfl, Below.refl _ _⟩
              case round =>
                rename World => wq
                obtain ⟨p, hpn, rfl, hb⟩ := hrel
                have HBQ := Lib.hid hb
                clear hb
                by_cases hlp : p < n5
                · obtain ⟨s5, hs5⟩ : ∃ s5, L5[p]? = some s5 := ⟨_, List.getElem?_eq_getElem (by rw [HL5.out]; exact hlp)⟩
                  have hsm := List.mem_of_getElem? hs5
                  have hhas := with_has HME.out HRI.out (s := s5.sr) HNE.out (by rw [← HM5.out]; exact List.mem_map_of_mem hsm)
                  have hsr := ((HS5.out s5 hsm).later HBQ.out).sr
                  obtain ⟨g5, rfl, t0, t1⟩ := ser_cell (row_later HR5.out HBQ.out) HL5.out hs5
                  have htg := tag13 hsr key
                  rw [hhas.1] at htg
                  have hnm5 := hhas.2
                  rw [hnm5] at t0
                  have hval5 : s5.val = .agg #[.string nm, s5.sl] := by unfold SV.val SV.sl; rw [hnm5]
                  rw [hval5] at htg
                  obtain ⟨sa5, sn5, sc5, hsl⟩ : ∃ a n c, s5.sl = .slice a n c := ⟨_, _, _, rfl⟩
                  rw [hsl] at htg t1
                  have HTG := Lib.hid htg
                  have HT0 := Lib.hid t0
                  clear hs5 hsm hhas hsr htg hnm5 hval5 hsl
                  go_wp2_with fail
                  clear t0 t1
                  refine HTG.out.mono ?_
                  rintro e w6 ⟨rfl, hb6⟩
                  have hb46 := HB5.out.trans ((HBQ.out.trans (hb6.mono HBQ.out.size)).mono HB5.out.size)
                  have t0 := (World.cell?_of_block (a := ⟨g5, p * 2, none⟩) (hb6.block g5 (cell_lt HT0.out))).trans HT0.out
                  obtain ⟨vg', evg, r0⟩ := str_cell (row_later HR4.out hb46) HNV.out HVA.out
                  obtain rfl : vg = vg' := by injection evg with e; injection e with e
                  obtain ⟨ng', eng, q0⟩ := str_cell (row_later HNR.out (HB4.out.trans (hb46.mono HB4.out.size))) HNN.out HNM.out
                  obtain rfl : ng = ng' := by injection eng with e; injection e with e
                  have HB6 := Lib.hid (HBQ.out.trans (hb6.mono HBQ.out.size))
                  have hi0 : (0 : Int) ≤ (p : Int) := by omega
                  have hi1 : (p : Int) < (n5 : Int) := by omega
                  have hj0 : (0 : Int) ≤ (j : Int) := by omega
                  have hj1 : (j : Int) < (nn : Int) := by omega
                  have hl0 : (0 : Int) ≤ (l : Int) := by omega
                  have hl1 : (l : Int) < (nv : Int) := by omega
                  clear hb6 hb46 evg eng
                  go_wp2_with fail
                  go_quiet (fail)
                  go_wp2
                  go_roundw
                  case rel => exact ⟨p + 1, by omega, by go_num, below_drewN HB6.out _⟩
                  case measure => simp [intOf]; omega
                · have hpe : p = n5 := by omega
                  subst hpe
                  have HBX := Lib.hid (HB5.out.trans (HBQ.out.mono HB5.out.size))
                  clear hlp
                  go_wp2_with fail
                  go_roundw
                  case rel => exact ⟨l + 1, by omega, by go_num, by rw [HCN5.out]; go_num, HBX.out⟩
                  case measure => simp [intOf]; omega
            · have hle : l = nv := by omega
              have hall : μ.ss.length = cn := by
                rw [HSUM.out, ← HCN.out, ps_all V g (by rw [hle]; exact HNV.out)]
              have hbpo := HB4.out.trans (HBP.out.mono HB4.out.size)
              obtain ⟨ng', eng, q0⟩ := str_cell (row_later HNR.out hbpo) HNN.out HNM.out
              obtain rfl : ng = ng' := by injection eng with e; injection e with e
              have HA := Lib.hid (show Calls Try.prog 14 #[.pointer (some ⟨x, 0, none⟩), .string nm] wp (SersPost wp (μ.ss.map fun p => p.2.sr)) by
                have := all14 (HG2.out.idx.gets.later hbpo) nm (by unfold maxLen; omega) (by rw [HMU.out]; exact HBD.out)
                rw [HMU.out] at this
                exact this)
              have HALL := Lib.hid hall
              have HLE := Lib.hid hle
              have hcp : 0 < cn := by rw [← hall]; exact HPOS.out
              have hlt := HLT.out
              have hlv' : ¬ (l : Int) < (nv : Int) := by omega
              clear hall hle hbpo eng hlv
              go_wp2_with fail
              clear q0
              refine HA.out.mono ?_
              rintro e w7 ⟨v7, L7, rfl, hm7, hr7, _, hb7⟩
              have hl7 : L7.length = cn := by
                have := congrArg List.length hm7
                rw [List.length_map, List.length_map] at this
                rw [this, HALL.out]
              rw [hl7] at hr7
              obtain ⟨a7, c7, rfl⟩ := row_form hr7
              have HB7 := Lib.hid ((HB4.out.trans (HBP.out.mono HB4.out.size)).trans (hb7.mono (HB4.out.trans (HBP.out.mono HB4.out.size)).size))
              have hz : ((cn : Int) == 0) = false := by simp; omega
              clear hm7 hr7 hb7 hl7
              go_wp2_with fail
              go_roundw
              case rel => exact ⟨j + 1, by omega, by go_num, HB7.out⟩
              case measure => simp [intOf]; omega
        · have hje : j = nn := by omega
          have HBY := Lib.hid (HB2.out.trans (HBO.out.mono HB2.out.size))
          clear hje
          go_wp2_with fail
          go_ret
          exact ⟨rfl, HBY.out⟩
end Go.Proofs.Ytobcpafalfdpkaa
