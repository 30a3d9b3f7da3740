/- Several texts of this proof, laid together. Conditions: as each says. -/
import Derived.Test.YtigicmnngppipaaGreatDoorFAO
import Derived.Test.YtigicmnngppipaaGreatDoorFAQ
import Derived.Test.YtigicmnngppipaaGreatDoorFAB
/- atof64 at a text that is read as a float. Conditions: the tables. -/
namespace Go.Proofs.YtigicmnngppipaaGreatDoor
open Go.RowKit Go.Dcm
set_option maxRecDepth 100000
theorem cell_lt {w : World} {p : Addr} {v : Value} (h : w.cell? p = some v) : p.block < w.heap.size := by
  rcases Nat.lt_or_ge p.block w.heap.size with h' | h'
  · exact h'
  · unfold World.cell? at h
    rw [Array.getElem?_eq_none h'] at h
    simp at h
/-- What ParseFloat reads of the world. -/
structure PEnv (T : Nat → Nat × Nat) (F : Nat → Nat) (B2 o2 B o : Nat) (S : Nat → ByteArray) (w : World) : Prop where
  pow : Pow T w
  tl : TabLt T
  flo : Flo F w
  fb : FB 16 B2 o2 B o S w
  op : w.cell? ⟨5, 0, none⟩ = some (.bool true)
section
variable {T : Nat → Nat × Nat} {F : Nat → Nat} {B2 o2 B o : Nat} {S : Nat → ByteArray} {w w' : World}
theorem PEnv.lts (h : PEnv T F B2 o2 B o S w) : 18 < w.heap.size ∧ 16 < w.heap.size ∧ B2 < w.heap.size ∧ B < w.heap.size ∧ 13 < w.heap.size :=
  ⟨cell_lt h.fb.p, cell_lt h.fb.m, by have := cell_lt (h.fb.pt 0 (by omega)); simpa using this, by have := cell_lt (h.fb.ch.d 1 (by omega) (by omega)); simpa using this, cell_lt (h.pow.c0 0 (by omega))⟩
theorem Pow.below {b : Nat} (h : Pow T w) (hb : Below b w w') (h15 : 13 < b) : Pow T w' :=
  ⟨fun k hk => (hb.cell (p := ⟨13, _, none⟩) h15).trans (h.c0 k hk), fun k hk => (hb.cell (p := ⟨13, _, none⟩) h15).trans (h.c1 k hk)⟩
theorem Flo.below (h : Flo F w) (hb : Below w.heap.size w w') : Flo F w' := by
  obtain ⟨h1, h2, g, o', h3, h4⟩ := h
  have hg := cell_lt (h4 0 (by omega))
  exact ⟨(hb.cell (cell_lt h1)).trans h1, h2, g, o', (hb.cell (cell_lt h3)).trans h3, fun k hk => (hb.cell (p := ⟨g, o' + k, none⟩) hg).trans (h4 k hk)⟩
theorem PEnv.below (h : PEnv T F B2 o2 B o S w) (hb : Below w.heap.size w w') : PEnv T F B2 o2 B o S w' := by
  obtain ⟨l16, l7, lB2, lB, l15⟩ := h.lts
  exact ⟨h.pow.below hb l15, h.tl, h.flo.below hb, h.fb.below hb l16 l7 lB2 lB, (hb.cell (cell_lt h.op)).trans h.op⟩
end
/-- A text that is read as a float: its sign. -/
theorem sgn_of {s : ByteArray} (h : PF.decB s.data.toList = true) : ∃ sg, Sgn s (PF.isNeg s.data.toList) sg ∧ s.data.toList.drop sg = PF.body s.data.toList ∧ s.size ≤ 400 := by
  unfold PF.decB at h
  simp only [Bool.and_eq_true, decide_eq_true_eq] at h
  obtain ⟨h1, h2⟩ := h
  have hsz : s.size ≤ 400 := by simpa using h2
  have hlen : s.data.toList.length = s.size := by simp
  by_cases hc : ∃ r, s.data.toList = 45 :: r
  · obtain ⟨r, hr⟩ := hc
    rw [hr] at h1
    have hb : PF.body (45 :: r) = r := rfl
    have hn : PF.isNeg (45 :: r) = true := rfl
    rw [hb] at h1
    refine ⟨1, ?_, by rw [hr]; rfl, hsz⟩
    refine ⟨?_, by rw [hr]; exact h1, fun _ => ⟨rfl, by rw [hr]; rfl⟩, fun h => by rw [hr, hn] at h; cases h⟩
    have : r ≠ [] := by rintro rfl; simp [PF.okM] at h1
    have := List.length_pos_iff.2 this
    rw [hr, List.length_cons] at hlen
    omega
  · have hb : PF.body s.data.toList = s.data.toList := by
      unfold PF.body
      split
      · rename_i r hr; exact absurd ⟨r, hr⟩ hc
      · rfl
    have hn : PF.isNeg s.data.toList = false := by
      unfold PF.isNeg
      split
      · rename_i r hr; exact absurd ⟨r, hr⟩ hc
      · rfl
    rw [hb] at h1
    refine ⟨0, ⟨?_, by rw [List.drop_zero]; exact h1, (fun h => by rw [hn] at h; cases h), fun _ => rfl⟩, by rw [hb]; rfl, hsz⟩
    have : s.data.toList ≠ [] := by intro e; rw [e] at h1; simp [PF.okM] at h1
    have := List.length_pos_iff.2 this
    omega
theorem special_of {s : ByteArray} {neg : Bool} {sg : Nat} (h : Sgn s neg sg) (w : World) : Calls Tryz.prog 245 #[.string s] w fun e w' => e = .returned (.tuple #[.float .f64 0, .int .i64 0, .bool false]) ∧ w = w' := by
  have hh := h.head
  have hl := h.lt
  cases hn : neg with
  | false =>
    obtain rfl := h.ispos hn
    exact special204_digit s ⟨hl, hh⟩ w
  | true =>
    obtain ⟨rfl, h45⟩ := h.isneg hn
    refine special204_minus s ⟨hl, ?_, hh⟩ w
    have : s.data.toList[0]? = some (s[0]'(by omega)) := by
      rw [List.getElem?_eq_getElem (by simp; omega)]; rfl
    rw [this] at h45
    rw [Option.some.inj h45]
    rfl
theorem zero242 : Tryz.zeroCells242 = rowV (fun _ => 0) 0 0 false false := by kernel_rfl
theorem dec_ok {l : List UInt8} (h : PF.decB l = true) (hm : (PF.readF l).1 ≠ 0) : (PF.decOf l).Ok ∧ -110000 ≤ (PF.decOf l).dp ∧ (PF.decOf l).dp ≤ 110000 := by
  unfold PF.decB at h
  simp only [Bool.and_eq_true, decide_eq_true_eq] at h
  obtain ⟨h1, h2⟩ := h
  have hbl : (PF.body l).length ≤ 400 := by
    unfold PF.body
    split
    · rename_i r; simp at h2; omega
    · exact h2
  rw [PF.readF_eq] at hm
  have ok := PF.rf0_ok.run (l := PF.body l)
  have hr := (PF.run_ok (PF.body l) PF.rf0 false h1 (fun h => by cases h)).2
  have hx := exV_bd hr
  unfold PF.decOf
  dsimp only
  obtain ⟨E, hE⟩ : ∃ E, PF.RF.run (PF.body l) PF.rf0 = E := ⟨_, rfl⟩
  rw [hE] at ok hx hm
  rw [hE]
  have hm : E.1.man ≠ 0 := hm
  have hne : E.1.ds ≠ [] := by
    intro e
    have h3 := ok.nm
    rw [e] at h3
    have h4 := ok.man
    rw [show E.1.nm = 0 by simpa using h3] at h4
    simp at h4
    exact hm h4
  have h5 := ok.nd
  have h6 := ok.dpl
  have h7 := ok.dph
  refine ⟨⟨by simp only; omega, ok.dig, ?_⟩, ?_, ?_⟩
  · have h8 := ok.one
    simp only
    revert h8 hne
    cases E.1.ds <;> simp
  · simp only [PF.RF.nd]; split <;> omega
  · simp only [PF.RF.nd]; split <;> omega
def AtPost (s : ByteArray) (r : Nat × Bool) (w : World) (e : Ending) (w' : World) : Prop := e = .returned (.tuple #[.float .f64 r.1, .int .i64 (s.size : Int), errV r.2]) ∧ Below w.heap.size w w'
set_option maxHeartbeats 4000000 in
theorem atof182 (s : ByteArray) (hdec : PF.decB s.data.toList = true) {T : Nat → Nat × Nat} {F : Nat → Nat} {B2 o2 B o : Nat} {S : Nat → ByteArray} {w : World} (hw : PEnv T F B2 o2 B o S w) :
    Calls Tryz.prog 235 #[.string s] w (AtPost s (PF.atof (tabF T) F s.data.toList) w) := by
  obtain ⟨sg, hs, hbody, hsz⟩ := sgn_of hdec
  obtain ⟨R, hR⟩ : ∃ R, PF.atof (tabF T) F s.data.toList = R := ⟨_, rfl⟩
  rw [hR]
  unfold PF.atof at hR
  rw [PF.readF_eq] at hR
  dsimp only at hR
  obtain ⟨neg, hneg⟩ : ∃ neg, PF.isNeg s.data.toList = neg := ⟨_, rfl⟩
  obtain ⟨E, hE⟩ : ∃ E, PF.RF.run (PF.body s.data.toList) PF.rf0 = E := ⟨_, rfl⟩
  rw [hneg, hE] at hR
  rw [hneg] at hs
  have hEE : PF.RF.run (s.data.toList.drop sg) PF.rf0 = E := by rw [hbody]; exact hE
  have M204 := Lib.hid (fun w => special_of hs w)
  have M205 := Lib.hid (fun w => read205 s hsz neg sg hs E hEE w)
  have M211 := Lib.hid (fun b f0 w hD => set211 s hsz neg sg hs E hEE b f0 w hD)
  have M213 := Lib.hid (fun w => bool213 neg w)
  have c6 := hw.op
  have h214 := run214
  have HW := Lib.hid hw
  have wsg : IntKind.u64.wrap (((neg.toNat : Nat) : Int) * 9223372036854775808) = ((PF.sgn neg : Nat) : Int) := by cases neg <;> rfl
  have os : bits BinOp.or IntKind.u64 ((PF.sgn neg : Nat) : Int) 0 = ((PF.sgn neg : Nat) : Int) := by
    have h := bits_or_u64_nat (PF.sgn neg) 0 (by cases neg <;> simp [PF.sgn]) (by omega)
    rw [Nat.or_zero] at h
    exact h
  have oi : bits BinOp.or IntKind.u64 ((PF.sgn neg : Nat) : Int) 9218868437227405312 = ((PF.sgn neg + 9218868437227405312 : Nat) : Int) := by
    have h := bits_or_u64_nat (PF.sgn neg) 9218868437227405312 (by cases neg <;> simp [PF.sgn]) (by omega)
    rw [PF.or_sgn neg _ (by omega)] at h
    exact h
  have HR := Lib.hid hR
  have HDEC := Lib.hid hdec
  have HNEG := Lib.hid hneg
  have HE := Lib.hid hE
  clear hw hs hbody hR hneg hE hEE hdec
  obtain ⟨man, hman⟩ : ∃ m, E.1.man = m := ⟨_, rfl⟩
  obtain ⟨p, hp⟩ : ∃ p, PF.expo E = p := ⟨_, rfl⟩
  obtain ⟨tr, htr⟩ : ∃ t, E.1.tr = t := ⟨_, rfl⟩
  rw [hman, hp, htr] at HR M205
  have HMAN := Lib.hid hman
  clear hman hp htr
  have hRR := HR.out
  by_cases hm0 : man = 0
  · rw [if_pos hm0] at hRR
    have m0 : ((man : Int) == 0) = true := by rw [hm0]; rfl
    have HRR := Lib.hid hRR
    clear hRR hm0
    go_enter Tryz.func235, Tryz.ntmps235
    go_wp2_with fail
    refine (M204.out _).mono ?_
    rintro e w' ⟨rfl, rfl⟩
    go_wp2_with fail
    refine (M205.out _).mono ?_
    rintro e w' ⟨rfl, rfl⟩
    go_wp2_with fail
    refine (M213.out _).mono ?_
    rintro e w' ⟨rfl, rfl⟩
    go_wp2_with fail
    go_ret3
    exact ⟨by rw [← HRR.out]; rfl, Below.refl _ _⟩
  · rw [if_neg hm0] at hRR
    have m0 : ((man : Int) == 0) = false := by rw [beq_eq_false_iff_ne]; omega
    have HM0 : Hid (man ≠ 0) := Lib.hid hm0
    clear hm0
    by_cases h310 : 310 < p
    · rw [if_pos h310] at hRR
      have HRR := Lib.hid hRR
      clear hRR
      go_enter Tryz.func235, Tryz.ntmps235
      go_wp2_with fail
      refine (M204.out _).mono ?_
      rintro e w' ⟨rfl, rfl⟩
      go_wp2_with fail
      refine (M205.out _).mono ?_
      rintro e w' ⟨rfl, rfl⟩
      go_wp2_with fail
      refine (M213.out _).mono ?_
      rintro e w' ⟨rfl, rfl⟩
      go_wp2_with fail
      go_ret3
      exact ⟨by rw [← HRR.out]; rfl, Below.refl _ _⟩
    · rw [if_neg h310] at hRR
      by_cases h345 : p < -345
      · rw [if_pos h345] at hRR
        have HRR := Lib.hid hRR
        clear hRR
        go_enter Tryz.func235, Tryz.ntmps235
        go_wp2_with fail
        refine (M204.out _).mono ?_
        rintro e w' ⟨rfl, rfl⟩
        go_wp2_with fail
        refine (M205.out _).mono ?_
        rintro e w' ⟨rfl, rfl⟩
        go_wp2_with fail
        refine (M213.out _).mono ?_
        rintro e w' ⟨rfl, rfl⟩
        go_wp2_with fail
        go_ret3
        exact ⟨by rw [← HRR.out]; rfl, Below.refl _ _⟩
      · rw [if_neg h345] at hRR
        have hm19 : man < 10000000000000000000 := by rw [← HMAN.out, ← HE.out]; exact (man_lt (PF.rf0_ok.run (l := PF.body s.data.toList))).1
        have hw := HW.out
        have MP := Lib.hid (par216 T hw.tl man (by omega) p (by omega) (by omega) neg w hw.pow hw.lts.2.2.2.2)
        obtain ⟨P1, hP1⟩ : ∃ P, PF.par64 (tabF T) man p neg = P := ⟨_, rfl⟩
        rw [hP1] at MP hRR
        clear hw hP1
        cases tr with
        | false =>
          rw [if_neg (by decide)] at hRR
          have MX := Lib.hid (exact215 F man (by omega) p (by omega) (by omega) neg w HW.out.flo)
          obtain ⟨X, hX⟩ : ∃ X, PF.exact64 F man p neg = X := ⟨_, rfl⟩
          rw [hX] at MX hRR
          clear hX
          cases X with
          | some r =>
            have hRR : (r, false) = R := hRR
            have HRR := Lib.hid hRR
            clear hRR
            go_enter Tryz.func235, Tryz.ntmps235
            go_wp2_with fail
            refine (M204.out _).mono ?_
            rintro e w' ⟨rfl, rfl⟩
            go_wp2_with fail
            refine (M205.out _).mono ?_
            rintro e w' ⟨rfl, rfl⟩
            go_wp2_with fail
            refine (M213.out _).mono ?_
            rintro e w' ⟨rfl, rfl⟩
            go_wp2_with fail
            refine MX.out.mono ?_
            rintro e w' ⟨he, rfl⟩
            obtain ⟨r', h1, rfl⟩ | ⟨h1, _⟩ := he
            · cases h1
              go_wp2_with fail
              go_ret3
              exact ⟨by rw [← HRR.out]; rfl, Below.refl _ _⟩
            · cases h1
          | none =>
            have hRR : P1 = R := hRR
            have HRR := Lib.hid hRR
            clear hRR
            go_enter Tryz.func235, Tryz.ntmps235
            go_wp2_with fail
            refine (M204.out _).mono ?_
            rintro e w' ⟨rfl, rfl⟩
            go_wp2_with fail
            refine (M205.out _).mono ?_
            rintro e w' ⟨rfl, rfl⟩
            go_wp2_with fail
            refine (M213.out _).mono ?_
            rintro e w' ⟨rfl, rfl⟩
            go_wp2_with fail
            refine MX.out.mono ?_
            rintro e w' ⟨he, rfl⟩
            obtain ⟨r', h1, _⟩ | ⟨_, x, rfl⟩ := he
            · cases h1
            · go_wp2_with fail
              refine MP.out.mono ?_
              rintro e w2 ⟨rfl, hb2⟩
              have HB2 := Lib.hid hb2
              clear hb2
              go_wp2_with fail
              go_ret3
              exact ⟨by rw [← HRR.out]; rfl, HB2.out⟩
        | true =>
          rw [if_pos rfl] at hRR
          dsimp only at hRR
          have hRR := hRR
          have HRR := Lib.hid hRR
          clear hRR
          go_enter Tryz.func235, Tryz.ntmps235
          go_wp2_with fail
          refine (M204.out _).mono ?_
          rintro e w' ⟨rfl, rfl⟩
          go_wp2_with fail
          refine (M205.out _).mono ?_
          rintro e w' ⟨rfl, rfl⟩
          go_wp2_with fail
          refine (M213.out _).mono ?_
          rintro e w' ⟨rfl, rfl⟩
          go_wp2_with fail
          refine MP.out.mono ?_
          rintro e w2 ⟨rfl, hb2⟩
          have hw2 := HW.out.below hb2
          have MP2 := Lib.hid (par216 T hw2.tl (man + 1) (by omega) p (by omega) (by omega) neg w2 hw2.pow hw2.lts.2.2.2.2)
          obtain ⟨P2, hP2⟩ : ∃ P, PF.par64 (tabF T) (man + 1) p neg = P := ⟨_, rfl⟩
          obtain ⟨mm, hmm⟩ : ∃ mm : Nat, man + 1 = mm := ⟨_, rfl⟩
          rw [hP2] at MP2
          rw [hmm] at MP2
          have hm1 : (man : Int) + 1 = (mm : Int) := by omega
          have HRR2 : Hid ((if PF.eqF P1.1 P2.1 then P1 else PF.fbits neg (PF.decOf s.data.toList)) = R) := Lib.hid (by rw [← hP2]; exact HRR.out)
          have HW2 := Lib.hid hw2
          have HB2 := Lib.hid hb2
          have HS2 : Hid (w.heap.size ≤ w2.heap.size) := Lib.hid hb2.size
          clear hb2 hw2 hP2 hmm HRR
          go_wp2_with fail
          refine MP2.out.mono ?_
          rintro e w3 ⟨rfl, hb3⟩
          have HB3 := Lib.hid (HB2.out.trans (hb3.mono HS2.out))
          have HS3 : Hid (w2.heap.size ≤ w3.heap.size) := Lib.hid hb3.size
          clear hb3
          cases hq : PF.eqF P1.1 P2.1 with
          | true =>
            have hq2 := hq
            unfold PF.eqF at hq2
            have hq3 : (FloatKind.f64.format.order P1.1 P2.1 == some Ordering.eq) = true := hq2
            have hr : P1 = R := by rw [← HRR2.out, if_pos hq]
            have HR1 := Lib.hid hr
            clear hq hq2 hr
            go_wp2_with fail
            go_ret3
            exact ⟨by rw [← HR1.out]; rfl, HB3.out⟩
          | false =>
            have hq2 := hq
            unfold PF.eqF at hq2
            have hq3 : (FloatKind.f64.format.order P1.1 P2.1 == some Ordering.eq) = false := hq2
            have hr : PF.fbits neg (PF.decOf s.data.toList) = R := by rw [← HRR2.out, if_neg (by rw [hq]; decide)]
            have HR1 := Lib.hid hr
            clear hq hq2 hr
            have HPW := Lib.hid (HW.out.below HB3.out)
            have hdz : DAt 242 (w3.alloc (.cells Tryz.zeroCells242 242)) w3.heap.size (fun _ => 0) 0 0 false false := by
              unfold DAt
              rw [zero242]
              exact heap_alloc_new w3 _
            have MS := Lib.hid (M211.out w3.heap.size _ _ hdz)
            clear hdz
            go_wp2_with fail
            refine MS.out.mono ?_
            rintro e w4 ⟨rfl, f, hd, hg, hb4⟩
            have ha := dec_ok (l := s.data.toList) HDEC.out (by rw [PF.readF_eq, HE.out]; show E.1.man ≠ 0; rw [HMAN.out]; exact HM0.out)
            have hde : PF.decOf s.data.toList = ⟨E.1.ds, (if E.1.dot then E.1.dp else (E.1.ds.length : Int)) + PF.exV E.2, false⟩ := by unfold PF.decOf; rw [HE.out]; rfl
            obtain ⟨a, haa⟩ : ∃ a, PF.decOf s.data.toList = a := ⟨_, rfl⟩
            rw [haa] at ha hde HR1
            have hd' : DAt 242 w4 w3.heap.size f a.ds.length a.dp neg a.tr := by rw [hde]; exact hd
            have hg' : Digs f a.ds := by rw [hde]; exact hg
            obtain ⟨l16, l7, lB2, lB, l15⟩ := HPW.out.lts
            have hb5 : Below w3.heap.size w3 w4 := (Below.alloc (Below.refl _ _) (Nat.le_refl _) _).trans hb4
            have MB := Lib.hid (bits212 w3.heap.size f a neg w4 hd' hg' ha.1 ha.2.1 ha.2.2 ((HPW.out.below hb5).fb) l16 l7 lB2 lB)
            rw [HR1.out] at MB
            have HB5 : Hid (Below w.heap.size w w4) := Lib.hid (HB3.out.trans (hb5.mono (Nat.le_trans HS2.out HS3.out)))
            have HB6 : Hid (w.heap.size ≤ w3.heap.size) := Lib.hid (Nat.le_trans HS2.out HS3.out)
            clear hd hg hb4 ha hde hd' hg' hb5 haa l16 l7 lB2 lB l15
            obtain ⟨r1, r2⟩ := R
            go_wp2_with fail
            refine MB.out.mono ?_
            rintro e w5 ⟨rfl, hb6⟩
            have HB7 := Lib.hid (HB5.out.trans (hb6.mono HB6.out))
            clear hb6
            cases r2
            · go_wp2_with fail
              go_ret3
              exact ⟨rfl, HB7.out⟩
            · go_wp2_with fail
              go_ret3
              exact ⟨rfl, HB7.out⟩
end Go.Proofs.YtigicmnngppipaaGreatDoor
/- ParseFloat at a text that is read as a float. Conditions: the tables, the error's variable. -/
namespace Go.Proofs.YtigicmnngppipaaGreatDoor
open Go.RowKit Go.Dcm
set_option maxRecDepth 100000
def PPost (r : Nat × Bool) (w : World) (e : Ending) (w' : World) : Prop := e = .returned (.tuple #[.float .f64 r.1, errV r.2]) ∧ Below w.heap.size w w'
section
variable {T : Nat → Nat × Nat} {F : Nat → Nat} {B2 o2 B o : Nat} {S : Nat → ByteArray} {w : World}
theorem prefix141 (s : ByteArray) (hdec : PF.decB s.data.toList = true) (hw : PEnv T F B2 o2 B o S w) :
    Calls Tryz.prog 201 #[.string s, .int .i64 64] w (AtPost s (PF.atof (tabF T) F s.data.toList) w) := by
  have M := Lib.hid (atof182 s hdec hw)
  obtain ⟨R, hR⟩ : ∃ R, PF.atof (tabF T) F s.data.toList = R := ⟨_, rfl⟩
  rw [hR] at M ⊢
  clear hw hdec hR
  go_enter Tryz.func201, Tryz.ntmps201
  go_wp2_with fail
  refine M.out.mono ?_
  rintro e w2 ⟨rfl, hb⟩
  have HB := Lib.hid hb
  clear hb
  go_wp2_with fail
  go_ret3
  exact ⟨rfl, HB.out⟩
theorem parse90 (s : ByteArray) (hdec : PF.decB s.data.toList = true) (hw : PEnv T F B2 o2 B o S w) :
    Calls Tryz.prog 170 #[.string s, .int .i64 64] w (PPost (PF.atof (tabF T) F s.data.toList) w) := by
  have M := Lib.hid (prefix141 s hdec hw)
  obtain ⟨R, hR⟩ : ∃ R, PF.atof (tabF T) F s.data.toList = R := ⟨_, rfl⟩
  rw [hR] at M ⊢
  clear hw hdec hR
  go_enter Tryz.func170, Tryz.ntmps170
  go_wp2_with fail
  refine M.out.mono ?_
  rintro e w2 ⟨rfl, hb⟩
  have HB := Lib.hid hb
  clear hb
  go_wp2_with fail
  go_ret2
  exact ⟨rfl, HB.out⟩
/-- What strconv.ParseFloat answers: the bits; an error just if they are too great. -/
def PfPost (r : Nat × Bool) (w : World) (e : Ending) (w' : World) : Prop :=
  (r.2 = false → e = .returned (.tuple #[.float .f64 r.1, .nilIface])) ∧ (r.2 = true → ∃ N, e = .returned (.tuple #[.float .f64 r.1, .iface 225 (.pointer (some ⟨N, 0, none⟩))])) ∧ Below w.heap.size w w'
def ErrPost (w : World) (e : Ending) (w' : World) : Prop := (∃ N, e = .returned (.iface 225 (.pointer (some ⟨N, 0, none⟩)))) ∧ Below w.heap.size w w'
theorem toErr91 (fn s : ByteArray) (b : Int) (hsz : s.size ≤ 281474976710656) {ev : Value} (hv : w.cell? ⟨8, 0, none⟩ = some ev) (hev : ev = .nilIface ∨ ∃ te pe, ev = .iface te pe) :
    Calls Tryz.prog 144 #[.string fn, .string s, .int .i64 b, .int .i64 64, .iface 222 (.int .i64 1)] w (ErrPost w) := by
  have M := Lib.hid (Tryz.strconv_rangeError fn s ev w hsz hv hev)
  have e1 : ∀ w, (binOp BinOp.eql 113 (.iface 222 (.int .i64 1)) (.iface 222 (.int .i64 2))).run Tryz.prog w = .ok (.bool false) w := fun w => by kernel_rfl
  have e2 : ∀ w, (binOp BinOp.eql 113 (.iface 222 (.int .i64 1)) (.iface 222 (.int .i64 1))).run Tryz.prog w = .ok (.bool true) w := fun w => by kernel_rfl
  clear hsz hv hev
  go_enter Tryz.func144, Tryz.ntmps144
  go_wp2_with fail
  refine M.out.mono ?_
  rintro e w2 ⟨N, rfl, _, _, hb⟩
  have HB := Lib.hid hb
  clear hb
  go_wp2_with fail
  go_ret
  exact ⟨⟨N, rfl⟩, HB.out⟩
theorem parse54 (s : ByteArray) (hdec : PF.decB s.data.toList = true) (hw : PEnv T F B2 o2 B o S w) {ev : Value} (hv : w.cell? ⟨8, 0, none⟩ = some ev) (hev : ev = .nilIface ∨ ∃ te pe, ev = .iface te pe) :
    Calls Tryz.prog 141 #[.string s, .int .i64 64] w (PfPost (PF.atof (tabF T) F s.data.toList) w) := by
  have M := Lib.hid (parse90 s hdec hw)
  obtain ⟨R, hR⟩ : ∃ R, PF.atof (tabF T) F s.data.toList = R := ⟨_, rfl⟩
  rw [hR] at M ⊢
  have hsz : s.size ≤ 281474976710656 := by
    have := (sgn_of hdec).choose_spec.2.2
    omega
  have HSZ := Lib.hid hsz
  have HV := Lib.hid hv
  have HEV := Lib.hid hev
  have HLT := Lib.hid (cell_lt hv)
  clear hw hdec hR hv hev hsz
  obtain ⟨r1, r2⟩ := R
  cases r2 with
  | false =>
    go_enter Tryz.func141, Tryz.ntmps141
    go_wp2_with fail
    refine M.out.mono ?_
    rintro e w2 ⟨rfl, hb⟩
    have HB := Lib.hid hb
    clear hb
    unfold errV
    go_wp2_with fail
    go_ret2
    exact ⟨fun _ => rfl, fun h => by (cases h), HB.out⟩
  | true =>
    go_enter Tryz.func141, Tryz.ntmps141
    go_wp2_with fail
    refine M.out.mono ?_
    rintro e w2 ⟨rfl, hb⟩
    have HB := Lib.hid hb
    have HV2 : Hid (w2.cell? ⟨8, 0, none⟩ = some ev) := Lib.hid ((hb.cell HLT.out).trans HV.out)
    clear hb
    unfold errV
    go_wp2_with fail
    refine (toErr91 _ s 0 HSZ.out HV2.out HEV.out).mono ?_
    rintro e w3 ⟨⟨N, rfl⟩, hb3⟩
    have HB3 := Lib.hid (HB.out.trans (hb3.mono HB.out.size))
    clear hb3
    go_wp2_with fail
    go_ret2
    exact ⟨fun h => by (cases h), fun _ => ⟨N, rfl⟩, HB3.out⟩
end
end Go.Proofs.YtigicmnngppipaaGreatDoor
