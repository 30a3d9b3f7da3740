/- The bits of a decimal: the walk whole. Condition: the decimal's block, the tables. -/
import Derived.Test.YtigicmnngppipaaGreatDoorFAN
namespace Go.Proofs.YtigicmnngppipaaGreatDoor
open Go.RowKit Go.Dcm
set_option maxRecDepth 100000
def Fb1 (b : Nat) (neg : Bool) (w : World) (P : PF.Dec × Int) (g : Nat) (e : Value) (wr : World) : Prop :=
  ∃ (a : PF.Dec) (f : Nat → Nat) (fu : Nat) (e' : Int), PF.fb1 fu a e' = P ∧ PF.muR a < fu ∧ g = PF.muR a ∧ a.Ok ∧ -330 ≤ a.dp ∧ a.dp ≤ 310 ∧ e' + 27 * fu ≤ 135000 ∧ 0 ≤ e' ∧ e = .int .i64 e' ∧ DAt 242 wr b f a.ds.length a.dp neg a.tr ∧ Digs f a.ds ∧ Below b w wr
def Fb2 (b : Nat) (neg : Bool) (w : World) (P : PF.Dec × Int) (g : Nat) (e : Value) (wr : World) : Prop :=
  ∃ (a : PF.Dec) (f : Nat → Nat) (fu : Nat) (e' : Int), PF.fb2 fu a e' = P ∧ PF.muL a < fu ∧ g = PF.muL a ∧ a.Ok ∧ -330 ≤ a.dp ∧ a.dp ≤ 0 ∧ -135000 ≤ e' - 27 * fu ∧ e' ≤ 135000 ∧ e = .int .i64 e' ∧ DAt 242 wr b f a.ds.length a.dp neg a.tr ∧ Digs f a.ds ∧ Below b w wr
theorem fb1_on {fu : Nat} {a : PF.Dec} {e : Int} (h : 0 < a.dp) : PF.fb1 (fu + 1) a e = PF.fb1 fu (a.rsh (PF.powtab a.dp.toNat)) (e + PF.powtab a.dp.toNat) := by rw [PF.fb1, if_pos h]
theorem fb1_off (fu : Nat) {a : PF.Dec} {e : Int} (h : ¬0 < a.dp) : PF.fb1 fu a e = (a, e) := by
  cases fu with
  | zero => rfl
  | succ fu => rw [PF.fb1, if_neg h]
theorem fb2_on {fu : Nat} {a : PF.Dec} {e : Int} (h : a.dp < 0 ∨ (a.dp = 0 ∧ PF.d0 a < 5)) : PF.fb2 (fu + 1) a e = PF.fb2 fu (a.lsh (PF.powtab (-a.dp).toNat)) (e - PF.powtab (-a.dp).toNat) := by rw [PF.fb2, if_pos h]
theorem fb2_off (fu : Nat) {a : PF.Dec} {e : Int} (h : ¬(a.dp < 0 ∨ (a.dp = 0 ∧ PF.d0 a < 5))) : PF.fb2 fu a e = (a, e) := by
  cases fu with
  | zero => rfl
  | succ fu => rw [PF.fb2, if_neg h]
theorem powtab_big {m : Nat} (h : 9 ≤ m) : PF.powtab m = 27 := by
  unfold PF.powtab
  split <;> first | rfl | omega
theorem powtab_bd (m : Nat) : 1 ≤ PF.powtab m ∧ PF.powtab m ≤ 27 := by
  by_cases h : 1 ≤ m
  · have := PF.powtab_lt m h; omega
  · obtain rfl : m = 0 := by omega
    decide
def BSt (b : Nat) (neg : Bool) (w : World) (q : PF.Dec × Int) (ex : Value) (w' : World) : Prop :=
  ex = .int .i64 q.2 ∧ ∃ f, DAt 242 w' b f q.1.ds.length q.1.dp neg q.1.tr ∧ Digs f q.1.ds ∧ Below b w w'
theorem rshN_dp : ∀ (k : Nat) {a : PF.Dec}, a.Ok → a.dp - k ≤ (a.rshN k).dp ∧ (a.rshN k).dp ≤ a.dp := by
  intro k
  induction k using Nat.strongRecOn with
  | ind k ih =>
    intro a h
    by_cases hk : 60 < k
    · rw [rshN_big hk]
      have h1 := rsh_dp h 60
      have h2 := ih (k - 60) (by omega) (PF.rsh_ok h 60).1
      omega
    · rw [rshN_small hk]
      exact rsh_dp h k
/-- What is left of a decimal's bits, once its exponent is known. -/
def fend (neg : Bool) (q : PF.Dec × Int) : Nat × Bool :=
  if 2047 ≤ q.2 + 1023 then (2047 * 2 ^ 52 + PF.sgn neg, true)
  else
    let m := PF.rint (q.1.lsh 53)
    let c := if m = 2 ^ 53 then (2 ^ 52, q.2 + 1) else (m, q.2)
    if m = 2 ^ 53 ∧ 2047 ≤ q.2 + 1 + 1023 then (2047 * 2 ^ 52 + PF.sgn neg, true)
    else
      let ex := if c.1 / 2 ^ 52 % 2 = 0 then -1023 else c.2
      (c.1 % 2 ^ 52 + ((ex + 1023).toNat % 2048) * 2 ^ 52 + PF.sgn neg, false)
def fmid (a : PF.Dec) (e : Int) : PF.Dec × Int := if e < -1022 then (a.rshN (-1022 - e).toNat, (-1022 : Int)) else (a, e)
/-- The mantissa m and the field X give the answer. -/
def Lst (neg : Bool) (R : Nat × Bool) (m X : Nat) : Prop := (m % 4503599627370496 + (if m / 4503599627370496 % 2 = 0 then 0 else X) * 4503599627370496 + PF.sgn neg, false) = R
/-- The last step, in numbers. -/
theorem lst_of {neg : Bool} {R : Nat × Bool} {m X : Nat} (hX : X ≤ 2046) (h : (if m = 9007199254740992 ∧ 2047 ≤ (X : Int) - 1023 + 1 + 1023 then ((2047 * 4503599627370496 + PF.sgn neg, true) : Nat × Bool)
    else ((if m = 9007199254740992 then ((4503599627370496, (X : Int) - 1023 + 1) : Nat × Int) else (m, (X : Int) - 1023)).1 % 4503599627370496 + (((if (if m = 9007199254740992 then ((4503599627370496, (X : Int) - 1023 + 1) : Nat × Int) else (m, (X : Int) - 1023)).1 / 4503599627370496 % 2 = 0 then -1023 else (if m = 9007199254740992 then ((4503599627370496, (X : Int) - 1023 + 1) : Nat × Int) else (m, (X : Int) - 1023)).2) + 1023).toNat % 2048) * 4503599627370496 + PF.sgn neg, false)) = R) :
    (m = 9007199254740992 → 2047 ≤ X + 1 → (2047 * 4503599627370496 + PF.sgn neg, true) = R) ∧ (m = 9007199254740992 → ¬2047 ≤ X + 1 → Lst neg R 4503599627370496 (X + 1)) ∧ (m ≠ 9007199254740992 → Lst neg R m X) := by
  refine ⟨fun h1 h2 => ?_, fun h1 h2 => ?_, fun h1 => ?_⟩
  · rw [if_pos ⟨h1, by omega⟩] at h
    exact h
  · rw [if_neg (by omega), if_pos h1] at h
    simp only at h
    unfold Lst
    rw [← h]
    have e : (4503599627370496 : Nat) / 4503599627370496 % 2 = 1 := by decide
    rw [e, if_neg (by decide), if_neg (by decide)]
    have e2 : ((X : Int) - 1023 + 1 + 1023).toNat % 2048 = X + 1 := by omega
    rw [e2]
  · rw [if_neg (fun h => h1 h.1), if_neg h1] at h
    simp only at h
    unfold Lst
    rw [← h]
    by_cases e : m / 4503599627370496 % 2 = 0
    · rw [if_pos e, if_pos e]; rfl
    · rw [if_neg e, if_neg e]
      have e2 : ((X : Int) - 1023 + 1023).toNat % 2048 = X := by omega
      rw [e2]
set_option maxHeartbeats 8000000 in
theorem bits212 (b : Nat) (f : Nat → Nat) (a : PF.Dec) (neg : Bool) (w : World) (hD : DAt 242 w b f a.ds.length a.dp neg a.tr) (hg : Digs f a.ds) (ha : a.Ok) (hp1 : -110000 ≤ a.dp) (hp2 : a.dp ≤ 110000) {G B2 o2 B o : Nat} {S : Nat → ByteArray} (hfb : FB G B2 o2 B o S w) (h16 : 18 < b) (hG : G < b) (hB2 : B2 < b) (hB : B < b) :
    Calls Tryz.prog 253 #[.pointer (some ⟨b, 0, none⟩), .pointer (some ⟨G, 0, none⟩)] w fun e w' => e = .returned (.tuple #[.int .u64 ((PF.fbits neg a).1 : Int), .bool (PF.fbits neg a).2]) ∧ Below b w w' := by
  obtain ⟨R, hR⟩ : ∃ R, PF.fbits neg a = R := ⟨_, rfl⟩
  rw [hR]
  have cn := hD.cnd
  have cp := hD.cdp
  have hl1 := ha.val.2.2.1
  have L0 : ((a.ds.length : Int) == 0) = false := by rw [beq_eq_false_iff_ne]; omega
  have hret : ∀ a' w', RetB b R w a' w' → bodyPost Tryz.prog Tryz.f253 (fun e w' => e = .returned (.tuple #[.int .u64 (R.1 : Int), .bool R.2]) ∧ Below b w w') .ret a' w' := by
    rintro a' w' ⟨h1, h2, h3, h4⟩
    refine bodyPost_ret (v := .tuple #[a'.tmps.getD 4 undef, a'.tmps.getD 5 undef]) (by simp [results, Tryz.results253]) h1 ⟨by rw [h2, h3], h4⟩
  have HRET := Lib.hid hret
  have HD := Lib.hid hD
  have HG := Lib.hid hg
  have HA := Lib.hid ha
  have HR := Lib.hid hR
  have HFB := Lib.hid hfb
  have hfb' : ∀ w', Below b w w' → FB G B2 o2 B o S w' := fun w' h => hfb.below h h16 hG hB2 hB
  have HFB' := Lib.hid hfb'
  clear hret hD hg ha hR hfb hl1 hfb'
  go_enter Tryz.func253, Tryz.ntmps253
  go_wp2_with fail
  refine wp_scope_labels (JB b neg G B2 o2 B o S R w) (fun l _ _ => l) ?_ ?_
  · have hRR := HR.out
    unfold PF.fbits at hRR
    dsimp only at hRR
    rw [if_neg HA.out.ne] at hRR
    have hsg : (if neg then 2 ^ 63 else 0 : Nat) = PF.sgn neg := by cases neg <;> rfl
    rw [hsg] at hRR
    by_cases h310 : 310 < a.dp
    · rw [if_pos h310] at hRR
      have HRR := Lib.hid hRR
      clear hRR hsg
      go_wp2_with fail
      go_step3
      exact ⟨⟨rfl, rfl, rfl, rfl⟩, _, _, _, _, HD.out, HFB.out, Below.refl _ _, HRR.out⟩
    · rw [if_neg h310] at hRR
      by_cases h330 : a.dp < -330
      · rw [if_pos h330] at hRR
        have HRR := Lib.hid hRR
        have k3 := HFB.out.bi
        clear hRR hsg
        go_wp2_with fail
        go_step3
        exact ⟨⟨rfl, rfl, rfl, rfl⟩, 0, 0, false, _, _, _, _, rfl, rfl, rfl, HD.out, HFB.out, Below.refl _ _, by omega, by omega, by rw [← HRR.out]; simp⟩
      · rw [if_neg h330] at hRR
        have HRR := Lib.hid hRR
        have hmu : PF.muR a < 5000 := by
          have := HA.out.d0.2.2
          unfold PF.muR
          omega
        have HMU := Lib.hid hmu
        obtain ⟨P1, hP1⟩ : ∃ P, PF.fb1 5000 a 0 = P := ⟨_, rfl⟩
        have HP1 := Lib.hid hP1
        have hd1 : -330 ≤ a.dp := by omega
        have hd2 : a.dp ≤ 310 := by omega
        clear hRR hsg hmu hP1
        go_wp2_with fail
        go_loopg [6] (PF.muR a) (fun g e wr => Fb1 b neg w P1 g e wr)
        case atStart => exact ⟨a, f, 5000, 0, HP1.out, HMU.out, rfl, HA.out, hd1, hd2, by omega, by omega, rfl, HD.out, HG.out, Below.refl _ _⟩
        case round =>
          obtain ⟨a', f', fu, e', hP, hm, hgm, hok, hb1, hb2, he1, he2, rfl, hd, hdg, hbl⟩ := hrel
          have cp' := hd.cdp
          have kp := (HFB'.out _ hbl).p
          by_cases hpos : 0 < a'.dp
          · obtain ⟨d, hdd⟩ : ∃ d : Nat, a'.dp = (d : Int) := ⟨a'.dp.toNat, by omega⟩
            obtain ⟨fu, rfl⟩ : ∃ x, fu = x + 1 := ⟨fu - 1, by omega⟩
            obtain ⟨hm1, hm2⟩ := PF.rsh_mu hok hpos
            rw [fb1_on hpos] at hP
            have hdt : a'.dp.toNat = d := by omega
            rw [hdt] at hP hm1 hm2
            have hpt := powtab_bd d
            have hdpp := rsh_dp hok (PF.powtab d)
            have M := fun n => shiftR227 b f' a' neg (wr.drewN n) (hd.drew n) hdg hok (by omega) (by omega) (PF.powtab d) hpt.1 (by omega)
            rw [rshN_small (by omega)] at M
            have kd := (HFB'.out _ hbl).pt
            obtain ⟨pn, hpn⟩ : ∃ pn, PF.powtab d = pn := ⟨_, rfl⟩
            rw [hpn] at hP hm1 hm2 hpt hdpp M
            rw [hdd] at cp' hpos
            have HST : Hid (∀ (n : Nat) (w2 : World), APost b (wr.drewN n) (a'.rsh pn) neg (.returned (.tuple #[])) w2 → Fb1 b neg w P1 (PF.muR (a'.rsh pn)) (.int .i64 (e' + pn)) w2) := Lib.hid (by
              rintro n w2 ⟨_, f2, h1, h2, h3⟩
              exact ⟨a'.rsh pn, f2, fu, e' + pn, hP, by omega, rfl, (PF.rsh_ok hok pn).1, by omega, by omega, by omega, by omega, rfl, h1, h2, (Go.below_drewN hbl n).trans h3⟩)
            have HMM : Hid (PF.muR (a'.rsh pn) < gk) := Lib.hid (by omega)
            have he1' : e' ≤ 135000 := by omega
            by_cases h9 : 9 ≤ d
            · have h9i : (9 : Int) ≤ (d : Int) := by omega
              rw [powtab_big h9] at hpn
              subst hpn
              have M27 : ∀ n, Calls Tryz.prog 188 #[.pointer (some ⟨b, 0, none⟩), .int .i64 (-27)] (wr.drewN n) (APost b (wr.drewN n) (a'.rsh 27) neg) := M
              have MM := Lib.hid M27
              clear hP hm hgm hok hd hdg hbl hm1 hm2 hpt hdpp hdt kd hdd M hb1 hb2 M27
              go_wp2_with fail
              go_quiet (fail)
              go_wp2_with fail
              refine (MM.out _).mono ?_
              rintro e w2 h2
              have he := h2.ends
              subst he
              have H2 := Lib.hid h2
              clear h2
              go_wp2_with fail
              go_roundg (PF.muR (a'.rsh 27))
              case measure => exact HMM.out
              case rel => exact HST.out _ _ H2.out
            · have h9i : ¬(9 : Int) ≤ (d : Int) := by omega
              have h9j : (d : Int) < 9 := by omega
              have kdd := kd d (by omega)
              rw [hpn] at kdd
              have MM := Lib.hid M
              clear hP hm hgm hok hd hdg hbl hm1 hm2 hdpp hdt kd hdd M hb1 hb2 hpn
              go_wp2_with fail
              go_quiet (fail)
              go_wp2_with fail
              go_quiet (fail)
              go_wp2_with fail
              refine (MM.out _).mono ?_
              rintro e w2 h2
              have he := h2.ends
              subst he
              have H2 := Lib.hid h2
              clear h2
              go_wp2_with fail
              go_roundg (PF.muR (a'.rsh pn))
              case measure => exact HMM.out
              case rel => exact HST.out _ _ H2.out
          · rw [fb1_off _ hpos] at hP
            subst hP
            have hR2 := HRR.out
            rw [HP1.out] at hR2
            dsimp only at hR2
            obtain ⟨P2, hP2⟩ : ∃ P, PF.fb2 5000 a' e' = P := ⟨_, rfl⟩
            rw [hP2] at hR2
            have hmu2 : PF.muL a' < 5000 := by
              have := hok.d0.2.1
              unfold PF.muL
              omega
            have he5 : e' ≤ 135000 := by omega
            have HST : Hid (Fb2 b neg w P2 (PF.muL a') (.int .i64 e') wr) := Lib.hid ⟨a', f', 5000, e', hP2, hmu2, rfl, hok, by omega, by omega, by omega, by omega, rfl, hd, hdg, hbl⟩
            have HR2 := Lib.hid hR2
            clear hR2 hP2 hmu2 hm hgm hok hd hdg hbl hb1 hb2 he1
            go_wp2_with fail
            go_loopg [6] (PF.muL a') (fun g e wr => Fb2 b neg w P2 g e wr)
            case atStart => exact HST.out
            case round =>
              clear cp' kp
              obtain ⟨a2, f2, fu2, e2, hP, hm, hgm, hok, hb1, hb2, hf1, hf2, rfl, hd, hdg, hbl⟩ := hrel
              have cp' := hd.cdp
              have kp := (HFB'.out _ hbl).p
              have hd0 := hok.d0
              have hfg := hdg 0 (by have := hok.val.2.2.1; omega)
              have c0 := hd.dig (i := 0) (by omega)
              obtain ⟨x0, hx0⟩ : ∃ x, f2 0 = x := ⟨_, rfl⟩
              rw [hx0] at c0 hfg
              have hdd0 : a2.ds.getD 0 0 = PF.d0 a2 := by unfold PF.d0; cases a2.ds <;> rfl
              rw [hdd0] at hfg
              by_cases hc : a2.dp < 0 ∨ (a2.dp = 0 ∧ PF.d0 a2 < 5)
              · obtain ⟨d, hdd⟩ : ∃ d : Nat, a2.dp = -(d : Int) := ⟨(-a2.dp).toNat, by omega⟩
                obtain ⟨fu2, rfl⟩ : ∃ x, fu2 = x + 1 := ⟨fu2 - 1, by omega⟩
                obtain ⟨hm1, hm2⟩ := PF.lsh_mu hok hb2 hc
                rw [fb2_on hc] at hP
                have hdt : (-a2.dp).toNat = d := by omega
                rw [hdt] at hP hm1 hm2
                have hpt := powtab_bd d
                have hdpp := lsh_dp hok hpt.1
                have hlok := (PF.lsh_ok hok (PF.powtab d)).1
                have M := fun n => shiftL227 b f2 a2 neg (wr.drewN n) (hd.drew n) hdg hok (by omega) (by omega) (PF.powtab d) hpt.1 (by omega) (HFB'.out _ (Go.below_drewN hbl n)).ch
                have kd := (HFB'.out _ hbl).pt
                obtain ⟨pn, hpn⟩ : ∃ pn, PF.powtab d = pn := ⟨_, rfl⟩
                rw [hpn] at hP hm1 hm2 hpt hdpp M hlok
                obtain ⟨z, hz⟩ : ∃ z, a2.dp = z := ⟨_, rfl⟩
                have HST : Hid (∀ (n : Nat) (w2 : World), APost b (wr.drewN n) (a2.lsh pn) neg (.returned (.tuple #[])) w2 → Fb2 b neg w P2 (PF.muL (a2.lsh pn)) (.int .i64 (e2 - pn)) w2) := Lib.hid (by
                  rintro n w2 ⟨_, f3, h1, h2, h3⟩
                  exact ⟨a2.lsh pn, f3, fu2, e2 - pn, hP, by omega, rfl, hlok, by omega, by omega, by omega, by omega, rfl, h1, h2, (Go.below_drewN hbl n).trans h3⟩)
                have HMM : Hid (PF.muL (a2.lsh pn) < gk) := Lib.hid (by omega)
                have he1' : -135000 ≤ e2 := by omega
                rw [hz] at cp' hb1 hb2 hc hdd
                have zn : -z = (d : Int) := by omega
                have wz : IntKind.i64.wrap (-z) = (d : Int) := by rw [IntWalk.i64_in _ (by omega)]; exact zn
                have wd : IntKind.i64.wrap (d : Int) = (d : Int) := IntWalk.i64_in _ (by omega)
                have hx53 : z < 0 ∨ (z = 0 ∧ x0 < 53) := by omega
                have HX := Lib.hid hx53
                clear hP hm hgm hok hd hdg hbl hm1 hm2 hdpp hdt hc hlok hfg hdd0 hd0 hx0 hz hdd hx53
                go_upto_region 18 with (fail)
                go_cut [80] from 61 to 80 (fun t w' => t = .bool true ∧ wr = w')
                case first =>
                  rcases HX.out with h | ⟨h, h0⟩
                  · have z1 : decide (z < 0) = true := by simpa using h
                    go_wp2_with fail
                    go_meet
                    case rel => exact ⟨rfl, rfl⟩
                  · have z1 : decide (z < 0) = false := by rw [h]; rfl
                    have z2 : (z == 0) = true := by rw [h]; rfl
                    have x53 : (x0 : Int) < 53 := by omega
                    clear h h0
                    go_wp2_with fail
                    go_meet
                    case rel => exact ⟨rfl, rfl⟩
                case rest =>
                  obtain ⟨rfl, rfl⟩ := hcut
                  by_cases h9 : 9 ≤ d
                  · have h9i : (9 : Int) ≤ (d : Int) := by omega
                    rw [powtab_big h9] at hpn
                    subst hpn
                    have M27 : ∀ n, Calls Tryz.prog 188 #[.pointer (some ⟨b, 0, none⟩), .int .i64 27] (wr.drewN n) (APost b (wr.drewN n) (a2.lsh 27) neg) := M
                    have MM := Lib.hid M27
                    clear kd M M27 hpt
                    go_wp2_with fail
                    go_quiet (fail)
                    go_wp2_with fail
                    refine (MM.out _).mono ?_
                    rintro e w2 h2
                    have he := h2.ends
                    subst he
                    have H2 := Lib.hid h2
                    clear h2
                    go_wp2_with fail
                    go_roundg (PF.muL (a2.lsh 27))
                    case measure => exact HMM.out
                    case rel => exact HST.out _ _ H2.out
                  · have h9i : ¬(9 : Int) ≤ (d : Int) := by omega
                    have h9j : (d : Int) < 9 := by omega
                    have kdd := kd d (by omega)
                    rw [hpn] at kdd
                    have MM := Lib.hid M
                    clear kd M hpn
                    go_wp2_with fail
                    go_quiet (fail)
                    go_wp2_with fail
                    go_quiet (fail)
                    go_wp2_with fail
                    refine (MM.out _).mono ?_
                    rintro e w2 h2
                    have he := h2.ends
                    subst he
                    have H2 := Lib.hid h2
                    clear h2
                    go_wp2_with fail
                    go_roundg (PF.muL (a2.lsh pn))
                    case measure => exact HMM.out
                    case rel => exact HST.out _ _ H2.out
              · rw [fb2_off _ hc] at hP
                subst hP
                have hR3 : fend neg (fmid a2 (e2 - 1)) = R := by
                  have h := HR2.out
                  dsimp only at h
                  exact h
                obtain ⟨q, hq⟩ : ∃ q, fmid a2 (e2 - 1) = q := ⟨_, rfl⟩
                rw [hq] at hR3
                have dp0 : a2.dp = 0 := by omega
                have hx53 : ¬(x0 : Int) < 53 := by omega
                obtain ⟨E, hE⟩ : ∃ E, e2 - 1 = E := ⟨_, rfl⟩
                rw [hE] at hq
                have hE1 : -140000 ≤ E := by omega
                have hE2 : E ≤ 140000 := by omega
                have hqok : q.1.Ok ∧ -200000 ≤ q.1.dp ∧ q.1.dp ≤ 0 ∧ -1022 ≤ q.2 ∧ q.2 ≤ 140000 := by
                  rw [← hq]
                  unfold fmid
                  split
                  · have h1 := rshN_dp (-1022 - E).toNat hok
                    exact ⟨PF.rshN_ok _ hok, by simp only; omega, by simp only; omega, by simp only; omega, by simp only; omega⟩
                  · exact ⟨hok, by simp only; omega, by simp only; omega, by simp only; omega, by simp only; omega⟩
                have HQOK := Lib.hid hqok
                have HR3 := Lib.hid hR3
                have HQ := Lib.hid hq
                have k3 := (HFB'.out _ hbl).bi
                have c0z : (a2.dp == 0) = true := by rw [dp0]; rfl
                rw [dp0] at cp'
                have M : Hid (∀ n : Nat, 1 ≤ n → n ≤ 400000 → Calls Tryz.prog 188 #[.pointer (some ⟨b, 0, none⟩), .int .i64 (-(n : Int))] wr (APost b wr (a2.rshN n) neg)) := Lib.hid (fun n h1 h2 => shiftR227 b f2 a2 neg wr hd hdg hok (by omega) (by omega) n h1 h2)
                have HDD := Lib.hid hd
                have HDG := Lib.hid hdg
                have HBL := Lib.hid hbl
                clear hm hgm hok hd hdg hbl hb1 hb2 hc hR3 hq hqok hfg hdd0 hd0 hx0 c0z dp0
                go_upto_if 111 with (fail)
                go_cut [6, 10] from 111 to 125 (fun ex n w' => BSt b neg w q ex w')
                case first =>
                  have hqq := HQ.out
                  unfold fmid at hqq
                  by_cases hlt : E < -1022
                  · rw [if_pos hlt] at hqq
                    obtain ⟨n, hn⟩ : ∃ n, (-1022 - E).toNat = n := ⟨_, rfl⟩
                    rw [hn] at hqq
                    have hni : -1022 - E = (n : Int) := by omega
                    have hEn : E + (n : Int) = -1022 := by omega
                    have MM := Lib.hid (M.out n (by omega) (by omega))
                    have HQQ := Lib.hid hqq
                    have hn2 : (n : Int) ≤ 400000 := by omega
                    clear hn hqq
                    go_wp2_with fail
                    refine MM.out.mono ?_
                    rintro e w2 h2
                    have he := h2.ends
                    subst he
                    have H2 := Lib.hid h2
                    clear h2
                    go_wp2_with fail
                    go_meet
                    case rel =>
                      obtain ⟨_, f3, h1, h2, h3⟩ := H2.out
                      rw [← HQQ.out]
                      exact ⟨rfl, f3, h1, h2, HBL.out.trans h3⟩
                  · rw [if_neg hlt] at hqq
                    have HQQ := Lib.hid hqq
                    clear hqq
                    go_wp2_with fail
                    go_meet
                    case rel =>
                      rw [← HQQ.out]
                      exact ⟨rfl, f2, HDD.out, HDG.out, HBL.out⟩
                case rest =>
                  obtain ⟨rfl, f3, hd3, hg3, hb3⟩ := hcut
                  rename World => w3
                  obtain ⟨qok, qd1, qd2, qe1, qe2⟩ := HQOK.out
                  obtain ⟨X, hX⟩ : ∃ X : Nat, q.2 = (X : Int) - 1023 := ⟨(q.2 + 1023).toNat, by omega⟩
                  rw [hX] at qe1 qe2 ⊢
                  have hfb3 := HFB'.out _ hb3
                  have k1 := hfb3.m
                  have k2 := hfb3.x
                  have k3 := hfb3.bi
                  have wX : IntKind.i64.wrap ((X : Int) - 1023 - -1023) = (X : Int) := by rw [IntWalk.i64_in _ (by omega)]; omega
                  have wX2 : IntKind.i64.wrap ((X : Int) - 1023 + 1 - -1023) = (X : Int) + 1 := by rw [IntWalk.i64_in _ (by omega)]; omega
                  have hr3 := HR3.out
                  unfold fend at hr3
                  dsimp only at hr3
                  rw [hX] at hr3
                  have HXQ := Lib.hid hX
                  have HD3 := Lib.hid hd3
                  have HB3 := Lib.hid hb3
                  have HFB3 := Lib.hid hfb3
                  have hlok := (PF.lsh_ok qok 53).1
                  have hldp := lsh_dp qok (k := 53) (by omega)
                  have M53 : ∀ n, Calls Tryz.prog 188 #[.pointer (some ⟨b, 0, none⟩), .int .i64 53] (w3.drewN n) (APost b (w3.drewN n) (q.1.lsh 53) neg) := fun n => shiftL227 b f3 q.1 neg (w3.drewN n) (hd3.drew n) hg3 qok (by omega) (by omega) 53 (by omega) (by omega) (HFB'.out _ (Go.below_drewN hb3 n)).ch
                  obtain ⟨a5, ha5⟩ : ∃ a5, q.1.lsh 53 = a5 := ⟨_, rfl⟩
                  rw [ha5] at hr3 hlok hldp M53
                  have MM := Lib.hid M53
                  have HLOK := Lib.hid hlok
                  have HLDP := Lib.hid hldp
                  clear qok hd3 hg3 hb3 hfb3 hlok hldp M53 hX ha5
                  by_cases hov : 2047 ≤ X
                  · rw [if_pos (by omega)] at hr3
                    have HRR3 := Lib.hid hr3
                    have hovi : (2047 : Int) ≤ (X : Int) := by omega
                    clear hr3
                    go_wp2_with fail
                    go_quiet (fail)
                    go_wp2_with fail
                    go_step3
                    exact ⟨⟨rfl, rfl, rfl, rfl⟩, _, _, _, _, HD3.out.drew _, HFB'.out _ (Go.below_drewN HB3.out _), Go.below_drewN HB3.out _, HRR3.out⟩
                  · rw [if_neg (by omega)] at hr3
                    have hovi : ¬(2047 : Int) ≤ (X : Int) := by omega
                    obtain ⟨m, hm⟩ : ∃ m, PF.rint a5 = m := ⟨_, rfl⟩
                    rw [hm] at hr3
                    have HM := Lib.hid hm
                    have HRR3 := Lib.hid hr3
                    clear hr3 hm
                    go_wp2_with fail
                    go_quiet (fail)
                    go_wp2_with fail
                    refine (MM.out _).mono ?_
                    rintro e w4 h4
                    have he := h4.ends
                    subst he
                    obtain ⟨_, f4, hd4, hg4, hb4⟩ := h4
                    have hb4' := (Go.below_drewN HB3.out _).trans hb4
                    have M246 := rint246 b f4 a5 neg w4 hd4 hg4 HLOK.out (by have := HLDP.out; omega) (by have := HLDP.out; omega)
                    rw [HM.out] at M246
                    have MM4 := Lib.hid M246
                    have HD4 := Lib.hid hd4
                    have HB4 := Lib.hid hb4'
                    have k14 := (HFB'.out _ hb4').m
                    have k24 := (HFB'.out _ hb4').x
                    have k34 := (HFB'.out _ hb4').bi
                    clear hd4 hg4 hb4 hb4' M246
                    go_wp2_with fail
                    refine MM4.out.mono ?_
                    rintro e w5 ⟨rfl, rfl⟩
                    have hm64 : m < 18446744073709551616 := by
                      rw [← HM.out]
                      unfold PF.rint
                      split
                      · decide
                      · exact Nat.mod_lt _ (by decide)
                    have h52 : (2 : Nat) ^ 52 = 4503599627370496 := by decide
                    have h53 : (2 : Nat) ^ 53 = 9007199254740992 := by decide
                    have hrr := HRR3.out
                    rw [h53, h52] at hrr
                    have HH := Lib.hid hrr
                    clear hrr h52 h53
                    go_upto_if 155 with (fail)
                    go_cut [6, 7] from 155 to 172 (fun ex mm w' => ∃ m' X' : Nat, ex = .int .i64 ((X' : Int) - 1023) ∧ mm = .int .u64 (m' : Int) ∧ X' ≤ 2046 ∧ m' < 18446744073709551616 ∧ Lst neg R m' X' ∧ ∃ n, w4.drewN n = w')
                    case first =>
                      obtain ⟨l1, l2, l3⟩ := lst_of (by omega) HH.out
                      by_cases h2 : m = 9007199254740992
                      · have m1 : ((m : Int) == 9007199254740992) = true := by rw [h2]; rfl
                        have m2 : (m : Int) / 2 = 4503599627370496 := by omega
                        by_cases h3 : 2047 ≤ X + 1
                        · have HL1 := Lib.hid (l1 h2 h3)
                          have h3i : (2047 : Int) ≤ (X : Int) + 1 := by omega
                          clear l1 l2 l3 h2
                          go_wp2_with fail
                          go_quiet (fail)
                          go_wp2_with fail
                          go_step3
                          exact ⟨⟨rfl, rfl, rfl, rfl⟩, _, _, _, _, HD4.out.drew _, HFB'.out _ (Go.below_drewN HB4.out _), Go.below_drewN HB4.out _, HL1.out⟩
                        · have HL2 := Lib.hid (l2 h2 h3)
                          have h3i : ¬(2047 : Int) ≤ (X : Int) + 1 := by omega
                          clear l1 l2 l3 h2
                          go_wp2_with fail
                          go_quiet (fail)
                          go_wp2_with fail
                          go_meet
                          case rel => exact ⟨4503599627370496, X + 1, congrArg (Value.int .i64) (by omega), rfl, by omega, by omega, HL2.out, _, rfl⟩
                      · have m1 : ((m : Int) == 9007199254740992) = false := by rw [beq_eq_false_iff_ne]; omega
                        have HL3 := Lib.hid (l3 h2)
                        clear l1 l2 l3 h2
                        go_wp2_with fail
                        go_meet
                        case rel => exact ⟨m, X, rfl, rfl, by omega, hm64, HL3.out, 0, rfl⟩
                    case rest =>
                      obtain ⟨m', X', rfl, rfl, hX', hm', hL, n, rfl⟩ := hcut
                      unfold Lst at hL
                      have ha := and52 m' hm'
                      have HDn := Lib.hid (HD4.out.drew n)
                      have HBn := Lib.hid (Go.below_drewN HB4.out n)
                      by_cases h0 : m' / 4503599627370496 % 2 = 0
                      · rw [if_pos h0] at hL
                        rw [h0] at ha
                        have HL := Lib.hid hL
                        clear hL h0
                        go_wp2_with fail
                        go_step3
                        exact ⟨⟨rfl, rfl, rfl, rfl⟩, m', 0, false, _, _, _, _, rfl, rfl, rfl, HDn.out, HFB'.out _ HBn.out, HBn.out, by omega, hm', HL.out⟩
                      · rw [if_neg h0] at hL
                        have h1 : m' / 4503599627370496 % 2 = 1 := by omega
                        rw [h1] at ha
                        have HL := Lib.hid hL
                        clear hL h0 h1
                        go_wp2_with fail
                        go_step3
                        exact ⟨⟨rfl, rfl, rfl, rfl⟩, m', X', false, _, _, _, _, rfl, rfl, rfl, HDn.out, HFB'.out _ HBn.out, HBn.out, by omega, hm', HL.out⟩
  · intro l' a' w' hJ
    match l', hJ with
    | 0, hJ =>
      refine ⟨_, rfl, pass_out b neg G B2 o2 B o S R w _ (fun a' w' h => ?_) _ rfl a' w' hJ⟩
      exact HRET.out a' w' h
    | 1, hJ =>
      refine ⟨_, rfl, pass_ovf b neg G B2 o2 B o S R w _ (fun a' w' h => ?_) _ rfl a' w' hJ⟩
      exact HRET.out a' w' h
    | n + 2, hJ => exact hJ.elim
end Go.Proofs.YtigicmnngppipaaGreatDoor
