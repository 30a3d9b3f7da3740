/- Several texts of this proof, laid together. Conditions: as each says. -/
import Derived.Test.YtagiddbfhlokcaaGreatDoorKAC
import Derived.Test.YtagiddbfhlokcaaGreatDoorKAB
import Derived.Deep.Cut
import Derived.Deep.CutRange
import Derived.Deep.CutBlock
import Derived.WalkMore
import Derived.RegionTactic
import Derived.ChangeAlike
import Derived.Test.YtagiddbfhlokcaaGreatDoorKAA
/- The bits of a decimal: the walk whole. Condition: the decimal's block, the tables. -/
namespace Go.Proofs.YtagiddbfhlokcaaGreatDoor
open Go.RowKit Go.Dcm
set_option maxRecDepth 100000
def Fb1 (b : Nat) (neg : Bool) (w : World) (P : PF.Dec × Int) (g : Nat) (e : Value) (wr : World) : Prop :=
  ∃ (a : PF.Dec) (f : Nat → Nat) (fu : Nat) (e' : Int), PF.fb1 fu a e' = P ∧ PF.muR a < fu ∧ g = PF.muR a ∧ a.Ok ∧ -330 ≤ a.dp ∧ a.dp ≤ 310 ∧ e' + 27 * fu ≤ 135000 ∧ 0 ≤ e' ∧ e = .int .i64 e' ∧ DAt 267 wr b f a.ds.length a.dp neg a.tr ∧ Digs f a.ds ∧ Below b w wr
def Fb2 (b : Nat) (neg : Bool) (w : World) (P : PF.Dec × Int) (g : Nat) (e : Value) (wr : World) : Prop :=
  ∃ (a : PF.Dec) (f : Nat → Nat) (fu : Nat) (e' : Int), PF.fb2 fu a e' = P ∧ PF.muL a < fu ∧ g = PF.muL a ∧ a.Ok ∧ -330 ≤ a.dp ∧ a.dp ≤ 0 ∧ -135000 ≤ e' - 27 * fu ∧ e' ≤ 135000 ∧ e = .int .i64 e' ∧ DAt 267 wr b f a.ds.length a.dp neg a.tr ∧ Digs f a.ds ∧ Below b w wr
theorem fb1_on {fu : Nat} {a : PF.Dec} {e : Int} (h : 0 < a.dp) : PF.fb1 (fu + 1) a e = PF.fb1 fu (a.rsh (PF.powtab a.dp.toNat)) (e + PF.powtab a.dp.toNat) := by rw [PF.fb1, if_pos h]
theorem fb1_off (fu : Nat) {a : PF.Dec} {e : Int} (h : ¬0 < a.dp) : PF.fb1 fu a e = (a, e) := by
  cases fu with
  | zero => rfl
  | succ fu => rw [PF.fb1, if_neg h]
theorem fb2_on {fu : Nat} {a : PF.Dec} {e : Int} (h : a.dp < 0 ∨ (a.dp = 0 ∧ PF.d0 a < 5)) : PF.fb2 (fu + 1) a e = PF.fb2 fu (a.lsh (PF.powtab (-a.dp).toNat)) (e - PF.powtab (-a.dp).toNat) := by rw [PF.fb2, if_pos h]
theorem fb2_off (fu : Nat) {a : PF.Dec} {e : Int} (h : ¬(a.dp < 0 ∨ (a.dp = 0 ∧ PF.d0 a < 5))) : PF.fb2 fu a e = (a, e) := by
  cases fu with
  | zero => rfl
  | succ fu => rw [PF.fb2, if_neg h]
theorem powtab_big {m : Nat} (h : 9 ≤ m) : PF.powtab m = 27 := by
  unfold PF.powtab
  split <;> first | rfl | omega
theorem powtab_bd (m : Nat) : 1 ≤ PF.powtab m ∧ PF.powtab m ≤ 27 := by
  by_cases h : 1 ≤ m
  · have := PF.powtab_lt m h; omega
  · obtain rfl : m = 0 := by omega
    decide
def BSt (b : Nat) (neg : Bool) (w : World) (q : PF.Dec × Int) (ex : Value) (w' : World) : Prop :=
  ex = .int .i64 q.2 ∧ ∃ f, DAt 267 w' b f q.1.ds.length q.1.dp neg q.1.tr ∧ Digs f q.1.ds ∧ Below b w w'
theorem rshN_dp : ∀ (k : Nat) {a : PF.Dec}, a.Ok → a.dp - k ≤ (a.rshN k).dp ∧ (a.rshN k).dp ≤ a.dp := by
  intro k
  induction k using Nat.strongRecOn with
  | ind k ih =>
    intro a h
    by_cases hk : 60 < k
    · rw [rshN_big hk]
      have h1 := rsh_dp h 60
      have h2 := ih (k - 60) (by omega) (PF.rsh_ok h 60).1
      omega
    · rw [rshN_small hk]
      exact rsh_dp h k
/-- What is left of a decimal's bits, once its exponent is known. -/
def fend (neg : Bool) (q : PF.Dec × Int) : Nat × Bool :=
  if 2047 ≤ q.2 + 1023 then (2047 * 2 ^ 52 + PF.sgn neg, true)
  else
    let m := PF.rint (q.1.lsh 53)
    let c := if m = 2 ^ 53 then (2 ^ 52, q.2 + 1) else (m, q.2)
    if m = 2 ^ 53 ∧ 2047 ≤ q.2 + 1 + 1023 then (2047 * 2 ^ 52 + PF.sgn neg, true)
    else
      let ex := if c.1 / 2 ^ 52 % 2 = 0 then -1023 else c.2
      (c.1 % 2 ^ 52 + ((ex + 1023).toNat % 2048) * 2 ^ 52 + PF.sgn neg, false)
def fmid (a : PF.Dec) (e : Int) : PF.Dec × Int := if e < -1022 then (a.rshN (-1022 - e).toNat, (-1022 : Int)) else (a, e)
/-- The mantissa m and the field X give the answer. -/
def Lst (neg : Bool) (R : Nat × Bool) (m X : Nat) : Prop := (m % 4503599627370496 + (if m / 4503599627370496 % 2 = 0 then 0 else X) * 4503599627370496 + PF.sgn neg, false) = R
/-- The last step, in numbers. -/
theorem lst_of {neg : Bool} {R : Nat × Bool} {m X : Nat} (hX : X ≤ 2046) (h : (if m = 9007199254740992 ∧ 2047 ≤ (X : Int) - 1023 + 1 + 1023 then ((2047 * 4503599627370496 + PF.sgn neg, true) : Nat × Bool)
    else ((if m = 9007199254740992 then ((4503599627370496, (X : Int) - 1023 + 1) : Nat × Int) else (m, (X : Int) - 1023)).1 % 4503599627370496 + (((if (if m = 9007199254740992 then ((4503599627370496, (X : Int) - 1023 + 1) : Nat × Int) else (m, (X : Int) - 1023)).1 / 4503599627370496 % 2 = 0 then -1023 else (if m = 9007199254740992 then ((4503599627370496, (X : Int) - 1023 + 1) : Nat × Int) else (m, (X : Int) - 1023)).2) + 1023).toNat % 2048) * 4503599627370496 + PF.sgn neg, false)) = R) :
    (m = 9007199254740992 → 2047 ≤ X + 1 → (2047 * 4503599627370496 + PF.sgn neg, true) = R) ∧ (m = 9007199254740992 → ¬2047 ≤ X + 1 → Lst neg R 4503599627370496 (X + 1)) ∧ (m ≠ 9007199254740992 → Lst neg R m X) := by
  refine ⟨fun h1 h2 => ?_, fun h1 h2 => ?_, fun h1 => ?_⟩
  · rw [if_pos ⟨h1, by omega⟩] at h
    exact h
  · rw [if_neg (by omega), if_pos h1] at h
    simp only at h
    unfold Lst
    rw [← h]
    have e : (4503599627370496 : Nat) / 4503599627370496 % 2 = 1 := by decide
    rw [e, if_neg (by decide), if_neg (by decide)]
    have e2 : ((X : Int) - 1023 + 1 + 1023).toNat % 2048 = X + 1 := by omega
    rw [e2]
  · rw [if_neg (fun h => h1 h.1), if_neg h1] at h
    simp only at h
    unfold Lst
    rw [← h]
    by_cases e : m / 4503599627370496 % 2 = 0
    · rw [if_pos e, if_pos e]; rfl
    · rw [if_neg e, if_neg e]
      have e2 : ((X : Int) - 1023 + 1023).toNat % 2048 = X := by omega
      rw [e2]
set_option maxHeartbeats 8000000 in
theorem bits212 (b : Nat) (f : Nat → Nat) (a : PF.Dec) (neg : Bool) (w : World) (hD : DAt 267 w b f a.ds.length a.dp neg a.tr) (hg : Digs f a.ds) (ha : a.Ok) (hp1 : -110000 ≤ a.dp) (hp2 : a.dp ≤ 110000) {G B2 o2 B o : Nat} {S : Nat → ByteArray} (hfb : FB G B2 o2 B o S w) (h16 : 16 < b) (hG : G < b) (hB2 : B2 < b) (hB : B < b) :
    Calls Tryz.prog 212 #[.pointer (some ⟨b, 0, none⟩), .pointer (some ⟨G, 0, none⟩)] w fun e w' => e = .returned (.tuple #[.int .u64 ((PF.fbits neg a).1 : Int), .bool (PF.fbits neg a).2]) ∧ Below b w w' := by
  obtain ⟨R, hR⟩ : ∃ R, PF.fbits neg a = R := ⟨_, rfl⟩
  rw [hR]
  have cn := hD.cnd
  have cp := hD.cdp
  have hl1 := ha.val.2.2.1
  have L0 : ((a.ds.length : Int) == 0) = false := by rw [beq_eq_false_iff_ne]; omega
  have hret : ∀ a' w', RetB b R w a' w' → bodyPost Tryz.prog Tryz.f212 (fun e w' => e = .returned (.tuple #[.int .u64 (R.1 : Int), .bool R.2]) ∧ Below b w w') .ret a' w' := by
    rintro a' w' ⟨h1, h2, h3, h4⟩
    refine bodyPost_ret (v := .tuple #[a'.tmps.getD 4 undef, a'.tmps.getD 5 undef]) (by simp [results, Tryz.results212]) h1 ⟨by rw [h2, h3], h4⟩
  have HRET := Lib.hid hret
  have HD := Lib.hid hD
  have HG := Lib.hid hg
  have HA := Lib.hid ha
  have HR := Lib.hid hR
  have HFB := Lib.hid hfb
  have hfb' : ∀ w', Below b w w' → FB G B2 o2 B o S w' := fun w' h => hfb.below h h16 hG hB2 hB
  have HFB' := Lib.hid hfb'
  clear hret hD hg ha hR hfb hl1 hfb'
  go_enter Tryz.func212, Tryz.ntmps212
  go_wp2_with fail
  refine wp_scope_labels (JB b neg G B2 o2 B o S R w) (fun l _ _ => l) ?_ ?_
  · have hRR := HR.out
    unfold PF.fbits at hRR
    dsimp only at hRR
    rw [if_neg HA.out.ne] at hRR
    have hsg : (if neg then 2 ^ 63 else 0 : Nat) = PF.sgn neg := by cases neg <;> rfl
    rw [hsg] at hRR
    by_cases h310 : 310 < a.dp
    · rw [if_pos h310] at hRR
      have HRR := Lib.hid hRR
      clear hRR hsg
      go_wp2_with fail
      go_step3
      exact ⟨⟨rfl, rfl, rfl, rfl⟩, _, _, _, _, HD.out, HFB.out, Below.refl _ _, HRR.out⟩
    · rw [if_neg h310] at hRR
      by_cases h330 : a.dp < -330
      · rw [if_pos h330] at hRR
        have HRR := Lib.hid hRR
        have k3 := HFB.out.bi
        clear hRR hsg
        go_wp2_with fail
        go_step3
        exact ⟨⟨rfl, rfl, rfl, rfl⟩, 0, 0, false, _, _, _, _, rfl, rfl, rfl, HD.out, HFB.out, Below.refl _ _, by omega, by omega, by rw [← HRR.out]; simp⟩
      · rw [if_neg h330] at hRR
        have HRR := Lib.hid hRR
        have hmu : PF.muR a < 5000 := by
          have := HA.out.d0.2.2
          unfold PF.muR
          omega
        have HMU := Lib.hid hmu
        obtain ⟨P1, hP1⟩ : ∃ P, PF.fb1 5000 a 0 = P := ⟨_, rfl⟩
        have HP1 := Lib.hid hP1
        have hd1 : -330 ≤ a.dp := by omega
        have hd2 : a.dp ≤ 310 := by omega
        clear hRR hsg hmu hP1
        go_wp2_with fail
        go_loopg [6] (PF.muR a) (fun g e wr => Fb1 b neg w P1 g e wr)
        case atStart => exact ⟨a, f, 5000, 0, HP1.out, HMU.out, rfl, HA.out, hd1, hd2, by omega, by omega, rfl, HD.out, HG.out, Below.refl _ _⟩
        case round =>
          obtain ⟨a', f', fu, e', hP, hm, hgm, hok, hb1, hb2, he1, he2, rfl, hd, hdg, hbl⟩ := hrel
          have cp' := hd.cdp
          have kp := (HFB'.out _ hbl).p
          by_cases hpos : 0 < a'.dp
          · obtain ⟨d, hdd⟩ : ∃ d : Nat, a'.dp = (d : Int) := ⟨a'.dp.toNat, by omega⟩
            obtain ⟨fu, rfl⟩ : ∃ x, fu = x + 1 := ⟨fu - 1, by omega⟩
            obtain ⟨hm1, hm2⟩ := PF.rsh_mu hok hpos
            rw [fb1_on hpos] at hP
            have hdt : a'.dp.toNat = d := by omega
            rw [hdt] at hP hm1 hm2
            have hpt := powtab_bd d
            have hdpp := rsh_dp hok (PF.powtab d)
            have M := fun n => shiftR227 b f' a' neg (wr.drewN n) (hd.drew n) hdg hok (by omega) (by omega) (PF.powtab d) hpt.1 (by omega)
            rw [rshN_small (by omega)] at M
            have kd := (HFB'.out _ hbl).pt
            obtain ⟨pn, hpn⟩ : ∃ pn, PF.powtab d = pn := ⟨_, rfl⟩
            rw [hpn] at hP hm1 hm2 hpt hdpp M
            rw [hdd] at cp' hpos
            have HST : Hid (∀ (n : Nat) (w2 : World), APost b (wr.drewN n) (a'.rsh pn) neg (.returned (.tuple #[])) w2 → Fb1 b neg w P1 (PF.muR (a'.rsh pn)) (.int .i64 (e' + pn)) w2) := Lib.hid (by
              rintro n w2 ⟨_, f2, h1, h2, h3⟩
              exact ⟨a'.rsh pn, f2, fu, e' + pn, hP, by omega, rfl, (PF.rsh_ok hok pn).1, by omega, by omega, by omega, by omega, rfl, h1, h2, (below_drewN hbl n).trans h3⟩)
            have HMM : Hid (PF.muR (a'.rsh pn) < gk) := Lib.hid (by omega)
            have he1' : e' ≤ 135000 := by omega
            by_cases h9 : 9 ≤ d
            · have h9i : (9 : Int) ≤ (d : Int) := by omega
              rw [powtab_big h9] at hpn
              subst hpn
              have M27 : ∀ n, Calls Tryz.prog 227 #[.pointer (some ⟨b, 0, none⟩), .int .i64 (-27)] (wr.drewN n) (APost b (wr.drewN n) (a'.rsh 27) neg) := M
              have MM := Lib.hid M27
              clear hP hm hgm hok hd hdg hbl hm1 hm2 hpt hdpp hdt kd hdd M hb1 hb2 M27
              go_wp2_with fail
              go_quiet (fail)
              go_wp2_with fail
              refine (MM.out _).mono ?_
              rintro e w2 h2
              have he := h2.ends
              subst he
              have H2 := Lib.hid h2
              clear h2
              go_wp2_with fail
              go_roundg (PF.muR (a'.rsh 27))
              case measure => exact HMM.out
              case rel => exact HST.out _ _ H2.out
            · have h9i : ¬(9 : Int) ≤ (d : Int) := by omega
              have h9j : (d : Int) < 9 := by omega
              have kdd := kd d (by omega)
              rw [hpn] at kdd
              have MM := Lib.hid M
              clear hP hm hgm hok hd hdg hbl hm1 hm2 hdpp hdt kd hdd M hb1 hb2 hpn
              go_wp2_with fail
              go_quiet (fail)
              go_wp2_with fail
              go_quiet (fail)
              go_wp2_with fail
              refine (MM.out _).mono ?_
              rintro e w2 h2
              have he := h2.ends
              subst he
              have H2 := Lib.hid h2
              clear h2
              go_wp2_with fail
              go_roundg (PF.muR (a'.rsh pn))
              case measure => exact HMM.out
              case rel => exact HST.out _ _ H2.out
          · rw [fb1_off _ hpos] at hP
            subst hP
            have hR2 := HRR.out
            rw [HP1.out] at hR2
            dsimp only at hR2
            obtain ⟨P2, hP2⟩ : ∃ P, PF.fb2 5000 a' e' = P := ⟨_, rfl⟩
            rw [hP2] at hR2
            have hmu2 : PF.muL a' < 5000 := by
              have := hok.d0.2.1
              unfold PF.muL
              omega
            have he5 : e' ≤ 135000 := by omega
            have HST : Hid (Fb2 b neg w P2 (PF.muL a') (.int .i64 e') wr) := Lib.hid ⟨a', f', 5000, e', hP2, hmu2, rfl, hok, by omega, by omega, by omega, by omega, rfl, hd, hdg, hbl⟩
            have HR2 := Lib.hid hR2
            clear hR2 hP2 hmu2 hm hgm hok hd hdg hbl hb1 hb2 he1
            go_wp2_with fail
            go_loopg [6] (PF.muL a') (fun g e wr => Fb2 b neg w P2 g e wr)
            case atStart => exact HST.out
            case round =>
              clear cp' kp
              obtain ⟨a2, f2, fu2, e2, hP, hm, hgm, hok, hb1, hb2, hf1, hf2, rfl, hd, hdg, hbl⟩ := hrel
              have cp' := hd.cdp
              have kp := (HFB'.out _ hbl).p
              have hd0 := hok.d0
              have hfg := hdg 0 (by have := hok.val.2.2.1; omega)
              have c0 := hd.dig (i := 0) (by omega)
              obtain ⟨x0, hx0⟩ : ∃ x, f2 0 = x := ⟨_, rfl⟩
              rw [hx0] at c0 hfg
              have hdd0 : a2.ds.getD 0 0 = PF.d0 a2 := by unfold PF.d0; cases a2.ds <;> rfl
              rw [hdd0] at hfg
              by_cases hc : a2.dp < 0 ∨ (a2.dp = 0 ∧ PF.d0 a2 < 5)
              · obtain ⟨d, hdd⟩ : ∃ d : Nat, a2.dp = -(d : Int) := ⟨(-a2.dp).toNat, by omega⟩
                obtain ⟨fu2, rfl⟩ : ∃ x, fu2 = x + 1 := ⟨fu2 - 1, by omega⟩
                obtain ⟨hm1, hm2⟩ := PF.lsh_mu hok hb2 hc
                rw [fb2_on hc] at hP
                have hdt : (-a2.dp).toNat = d := by omega
                rw [hdt] at hP hm1 hm2
                have hpt := powtab_bd d
                have hdpp := lsh_dp hok hpt.1
                have hlok := (PF.lsh_ok hok (PF.powtab d)).1
                have M := fun n => shiftL227 b f2 a2 neg (wr.drewN n) (hd.drew n) hdg hok (by omega) (by omega) (PF.powtab d) hpt.1 (by omega) (HFB'.out _ (below_drewN hbl n)).ch
                have kd := (HFB'.out _ hbl).pt
                obtain ⟨pn, hpn⟩ : ∃ pn, PF.powtab d = pn := ⟨_, rfl⟩
                rw [hpn] at hP hm1 hm2 hpt hdpp M hlok
                obtain ⟨z, hz⟩ : ∃ z, a2.dp = z := ⟨_, rfl⟩
                have HST : Hid (∀ (n : Nat) (w2 : World), APost b (wr.drewN n) (a2.lsh pn) neg (.returned (.tuple #[])) w2 → Fb2 b neg w P2 (PF.muL (a2.lsh pn)) (.int .i64 (e2 - pn)) w2) := Lib.hid (by
                  rintro n w2 ⟨_, f3, h1, h2, h3⟩
                  exact ⟨a2.lsh pn, f3, fu2, e2 - pn, hP, by omega, rfl, hlok, by omega, by omega, by omega, by omega, rfl, h1, h2, (below_drewN hbl n).trans h3⟩)
                have HMM : Hid (PF.muL (a2.lsh pn) < gk) := Lib.hid (by omega)
                have he1' : -135000 ≤ e2 := by omega
                rw [hz] at cp' hb1 hb2 hc hdd
                have zn : -z = (d : Int) := by omega
                have wz : IntKind.i64.wrap (-z) = (d : Int) := by rw [IntWalk.i64_in _ (by omega)]; exact zn
                have wd : IntKind.i64.wrap (d : Int) = (d : Int) := IntWalk.i64_in _ (by omega)
                have hx53 : z < 0 ∨ (z = 0 ∧ x0 < 53) := by omega
                have HX := Lib.hid hx53
                clear hP hm hgm hok hd hdg hbl hm1 hm2 hdpp hdt hc hlok hfg hdd0 hd0 hx0 hz hdd hx53
                go_upto_region 18 with (fail)
                go_cut [80] from 61 to 80 (fun t w' => t = .bool true ∧ wr = w')
                case first =>
                  rcases HX.out with h | ⟨h, h0⟩
                  · have z1 : decide (z < 0) = true := by simpa using h
                    go_wp2_with fail
                    go_meet
                    case rel => exact ⟨rfl, rfl⟩
                  · have z1 : decide (z < 0) = false := by rw [h]; rfl
                    have z2 : (z == 0) = true := by rw [h]; rfl
                    have x53 : (x0 : Int) < 53 := by omega
                    clear h h0
                    go_wp2_with fail
                    go_meet
                    case rel => exact ⟨rfl, rfl⟩
                case rest =>
                  obtain ⟨rfl, rfl⟩ := hcut
                  by_cases h9 : 9 ≤ d
                  · have h9i : (9 : Int) ≤ (d : Int) := by omega
                    rw [powtab_big h9] at hpn
                    subst hpn
                    have M27 : ∀ n, Calls Tryz.prog 227 #[.pointer (some ⟨b, 0, none⟩), .int .i64 27] (wr.drewN n) (APost b (wr.drewN n) (a2.lsh 27) neg) := M
                    have MM := Lib.hid M27
                    clear kd M M27 hpt
                    go_wp2_with fail
                    go_quiet (fail)
                    go_wp2_with fail
                    refine (MM.out _).mono ?_
                    rintro e w2 h2
                    have he := h2.ends
                    subst he
                    have H2 := Lib.hid h2
                    clear h2
                    go_wp2_with fail
                    go_roundg (PF.muL (a2.lsh 27))
                    case measure => exact HMM.out
                    case rel => exact HST.out _ _ H2.out
                  · have h9i : ¬(9 : Int) ≤ (d : Int) := by omega
                    have h9j : (d : Int) < 9 := by omega
                    have kdd := kd d (by omega)
                    rw [hpn] at kdd
                    have MM := Lib.hid M
                    clear kd M hpn
                    go_wp2_with fail
                    go_quiet (fail)
                    go_wp2_with fail
                    go_quiet (fail)
                    go_wp2_with fail
                    refine (MM.out _).mono ?_
                    rintro e w2 h2
                    have he := h2.ends
                    subst he
                    have H2 := Lib.hid h2
                    clear h2
                    go_wp2_with fail
                    go_roundg (PF.muL (a2.lsh pn))
                    case measure => exact HMM.out
                    case rel => exact HST.out _ _ H2.out
              · rw [fb2_off _ hc] at hP
                subst hP
                have hR3 : fend neg (fmid a2 (e2 - 1)) = R := by
                  have h := HR2.out
                  dsimp only at h
                  exact h
                obtain ⟨q, hq⟩ : ∃ q, fmid a2 (e2 - 1) = q := ⟨_, rfl⟩
                rw [hq] at hR3
                have dp0 : a2.dp = 0 := by omega
                have hx53 : ¬(x0 : Int) < 53 := by omega
                obtain ⟨E, hE⟩ : ∃ E, e2 - 1 = E := ⟨_, rfl⟩
                rw [hE] at hq
                have hE1 : -140000 ≤ E := by omega
                have hE2 : E ≤ 140000 := by omega
                have hqok : q.1.Ok ∧ -200000 ≤ q.1.dp ∧ q.1.dp ≤ 0 ∧ -1022 ≤ q.2 ∧ q.2 ≤ 140000 := by
                  rw [← hq]
                  unfold fmid
                  split
                  · have h1 := rshN_dp (-1022 - E).toNat hok
                    exact ⟨PF.rshN_ok _ hok, by simp only; omega, by simp only; omega, by simp only; omega, by simp only; omega⟩
                  · exact ⟨hok, by simp only; omega, by simp only; omega, by simp only; omega, by simp only; omega⟩
                have HQOK := Lib.hid hqok
                have HR3 := Lib.hid hR3
                have HQ := Lib.hid hq
                have k3 := (HFB'.out _ hbl).bi
                have c0z : (a2.dp == 0) = true := by rw [dp0]; rfl
                rw [dp0] at cp'
                have M : Hid (∀ n : Nat, 1 ≤ n → n ≤ 400000 → Calls Tryz.prog 227 #[.pointer (some ⟨b, 0, none⟩), .int .i64 (-(n : Int))] wr (APost b wr (a2.rshN n) neg)) := Lib.hid (fun n h1 h2 => shiftR227 b f2 a2 neg wr hd hdg hok (by omega) (by omega) n h1 h2)
                have HDD := Lib.hid hd
                have HDG := Lib.hid hdg
                have HBL := Lib.hid hbl
                clear hm hgm hok hd hdg hbl hb1 hb2 hc hR3 hq hqok hfg hdd0 hd0 hx0 c0z dp0
                go_upto_if 111 with (fail)
                go_cut [6, 10] from 111 to 125 (fun ex n w' => BSt b neg w q ex w')
                case first =>
                  have hqq := HQ.out
                  unfold fmid at hqq
                  by_cases hlt : E < -1022
                  · rw [if_pos hlt] at hqq
                    obtain ⟨n, hn⟩ : ∃ n, (-1022 - E).toNat = n := ⟨_, rfl⟩
                    rw [hn] at hqq
                    have hni : -1022 - E = (n : Int) := by omega
                    have hEn : E + (n : Int) = -1022 := by omega
                    have MM := Lib.hid (M.out n (by omega) (by omega))
                    have HQQ := Lib.hid hqq
                    have hn2 : (n : Int) ≤ 400000 := by omega
                    clear hn hqq
                    go_wp2_with fail
                    refine MM.out.mono ?_
                    rintro e w2 h2
                    have he := h2.ends
                    subst he
                    have H2 := Lib.hid h2
                    clear h2
                    go_wp2_with fail
                    go_meet
                    case rel =>
                      obtain ⟨_, f3, h1, h2, h3⟩ := H2.out
                      rw [← HQQ.out]
                      exact ⟨rfl, f3, h1, h2, HBL.out.trans h3⟩
                  · rw [if_neg hlt] at hqq
                    have HQQ := Lib.hid hqq
                    clear hqq
                    go_wp2_with fail
                    go_meet
                    case rel =>
                      rw [← HQQ.out]
                      exact ⟨rfl, f2, HDD.out, HDG.out, HBL.out⟩
                case rest =>
                  obtain ⟨rfl, f3, hd3, hg3, hb3⟩ := hcut
                  rename World => w3
                  obtain ⟨qok, qd1, qd2, qe1, qe2⟩ := HQOK.out
                  obtain ⟨X, hX⟩ : ∃ X : Nat, q.2 = (X : Int) - 1023 := ⟨(q.2 + 1023).toNat, by omega⟩
                  rw [hX] at qe1 qe2 ⊢
                  have hfb3 := HFB'.out _ hb3
                  have k1 := hfb3.m
                  have k2 := hfb3.x
                  have k3 := hfb3.bi
                  have wX : IntKind.i64.wrap ((X : Int) - 1023 - -1023) = (X : Int) := by rw [IntWalk.i64_in _ (by omega)]; omega
                  have wX2 : IntKind.i64.wrap ((X : Int) - 1023 + 1 - -1023) = (X : Int) + 1 := by rw [IntWalk.i64_in _ (by omega)]; omega
                  have hr3 := HR3.out
                  unfold fend at hr3
                  dsimp only at hr3
                  rw [hX] at hr3
                  have HXQ := Lib.hid hX
                  have HD3 := Lib.hid hd3
                  have HB3 := Lib.hid hb3
                  have HFB3 := Lib.hid hfb3
                  have hlok := (PF.lsh_ok qok 53).1
                  have hldp := lsh_dp qok (k := 53) (by omega)
                  have M53 : ∀ n, Calls Tryz.prog 227 #[.pointer (some ⟨b, 0, none⟩), .int .i64 53] (w3.drewN n) (APost b (w3.drewN n) (q.1.lsh 53) neg) := fun n => shiftL227 b f3 q.1 neg (w3.drewN n) (hd3.drew n) hg3 qok (by omega) (by omega) 53 (by omega) (by omega) (HFB'.out _ (below_drewN hb3 n)).ch
                  obtain ⟨a5, ha5⟩ : ∃ a5, q.1.lsh 53 = a5 := ⟨_, rfl⟩
                  rw [ha5] at hr3 hlok hldp M53
                  have MM := Lib.hid M53
                  have HLOK := Lib.hid hlok
                  have HLDP := Lib.hid hldp
                  clear qok hd3 hg3 hb3 hfb3 hlok hldp M53 hX ha5
                  by_cases hov : 2047 ≤ X
                  · rw [if_pos (by omega)] at hr3
                    have HRR3 := Lib.hid hr3
                    have hovi : (2047 : Int) ≤ (X : Int) := by omega
                    clear hr3
                    go_wp2_with fail
                    go_quiet (fail)
                    go_wp2_with fail
                    go_step3
                    exact ⟨⟨rfl, rfl, rfl, rfl⟩, _, _, _, _, HD3.out.drew _, HFB'.out _ (below_drewN HB3.out _), below_drewN HB3.out _, HRR3.out⟩
                  · rw [if_neg (by omega)] at hr3
                    have hovi : ¬(2047 : Int) ≤ (X : Int) := by omega
                    obtain ⟨m, hm⟩ : ∃ m, PF.rint a5 = m := ⟨_, rfl⟩
                    rw [hm] at hr3
                    have HM := Lib.hid hm
                    have HRR3 := Lib.hid hr3
                    clear hr3 hm
                    go_wp2_with fail
                    go_quiet (fail)
                    go_wp2_with fail
                    refine (MM.out _).mono ?_
                    rintro e w4 h4
                    have he := h4.ends
                    subst he
                    obtain ⟨_, f4, hd4, hg4, hb4⟩ := h4
                    have hb4' := (below_drewN HB3.out _).trans hb4
                    have M246 := rint246 b f4 a5 neg w4 hd4 hg4 HLOK.out (by have := HLDP.out; omega) (by have := HLDP.out; omega)
                    rw [HM.out] at M246
                    have MM4 := Lib.hid M246
                    have HD4 := Lib.hid hd4
                    have HB4 := Lib.hid hb4'
                    have k14 := (HFB'.out _ hb4').m
                    have k24 := (HFB'.out _ hb4').x
                    have k34 := (HFB'.out _ hb4').bi
                    clear hd4 hg4 hb4 hb4' M246
                    go_wp2_with fail
                    refine MM4.out.mono ?_
                    rintro e w5 ⟨rfl, rfl⟩
                    have hm64 : m < 18446744073709551616 := by
                      rw [← HM.out]
                      unfold PF.rint
                      split
                      · decide
                      · exact Nat.mod_lt _ (by decide)
                    have h52 : (2 : Nat) ^ 52 = 4503599627370496 := by decide
                    have h53 : (2 : Nat) ^ 53 = 9007199254740992 := by decide
                    have hrr := HRR3.out
                    rw [h53, h52] at hrr
                    have HH := Lib.hid hrr
                    clear hrr h52 h53
                    go_upto_if 155 with (fail)
                    go_cut [6, 7] from 155 to 172 (fun ex mm w' => ∃ m' X' : Nat, ex = .int .i64 ((X' : Int) - 1023) ∧ mm = .int .u64 (m' : Int) ∧ X' ≤ 2046 ∧ m' < 18446744073709551616 ∧ Lst neg R m' X' ∧ ∃ n, w4.drewN n = w')
                    case first =>
                      obtain ⟨l1, l2, l3⟩ := lst_of (by omega) HH.out
                      by_cases h2 : m = 9007199254740992
                      · have m1 : ((m : Int) == 9007199254740992) = true := by rw [h2]; rfl
                        have m2 : (m : Int) / 2 = 4503599627370496 := by omega
                        by_cases h3 : 2047 ≤ X + 1
                        · have HL1 := Lib.hid (l1 h2 h3)
                          have h3i : (2047 : Int) ≤ (X : Int) + 1 := by omega
                          clear l1 l2 l3 h2
                          go_wp2_with fail
                          go_quiet (fail)
                          go_wp2_with fail
                          go_step3
                          exact ⟨⟨rfl, rfl, rfl, rfl⟩, _, _, _, _, HD4.out.drew _, HFB'.out _ (below_drewN HB4.out _), below_drewN HB4.out _, HL1.out⟩
                        · have HL2 := Lib.hid (l2 h2 h3)
                          have h3i : ¬(2047 : Int) ≤ (X : Int) + 1 := by omega
                          clear l1 l2 l3 h2
                          go_wp2_with fail
                          go_quiet (fail)
                          go_wp2_with fail
                          go_meet
                          case rel => exact ⟨4503599627370496, X + 1, congrArg (Value.int .i64) (by omega), rfl, by omega, by omega, HL2.out, _, rfl⟩
                      · have m1 : ((m : Int) == 9007199254740992) = false := by rw [beq_eq_false_iff_ne]; omega
                        have HL3 := Lib.hid (l3 h2)
                        clear l1 l2 l3 h2
                        go_wp2_with fail
                        go_meet
                        case rel => exact ⟨m, X, rfl, rfl, by omega, hm64, HL3.out, 0, rfl⟩
                    case rest =>
                      obtain ⟨m', X', rfl, rfl, hX', hm', hL, n, rfl⟩ := hcut
                      unfold Lst at hL
                      have ha := and52 m' hm'
                      have HDn := Lib.hid (HD4.out.drew n)
                      have HBn := Lib.hid (below_drewN HB4.out n)
                      by_cases h0 : m' / 4503599627370496 % 2 = 0
                      · rw [if_pos h0] at hL
                        rw [h0] at ha
                        have HL := Lib.hid hL
                        clear hL h0
                        go_wp2_with fail
                        go_step3
                        exact ⟨⟨rfl, rfl, rfl, rfl⟩, m', 0, false, _, _, _, _, rfl, rfl, rfl, HDn.out, HFB'.out _ HBn.out, HBn.out, by omega, hm', HL.out⟩
                      · rw [if_neg h0] at hL
                        have h1 : m' / 4503599627370496 % 2 = 1 := by omega
                        rw [h1] at ha
                        have HL := Lib.hid hL
                        clear hL h0 h1
                        go_wp2_with fail
                        go_step3
                        exact ⟨⟨rfl, rfl, rfl, rfl⟩, m', X', false, _, _, _, _, rfl, rfl, rfl, HDn.out, HFB'.out _ HBn.out, HBn.out, by omega, hm', HL.out⟩
  · intro l' a' w' hJ
    match l', hJ with
    | 0, hJ =>
      refine ⟨_, rfl, pass_out b neg G B2 o2 B o S R w _ (fun a' w' h => ?_) _ rfl a' w' hJ⟩
      exact HRET.out a' w' h
    | 1, hJ =>
      refine ⟨_, rfl, pass_ovf b neg G B2 o2 B o S R w _ (fun a' w' h => ?_) _ rfl a' w' hJ⟩
      exact HRET.out a' w' h
    | n + 2, hJ => exact hJ.elim
end Go.Proofs.YtagiddbfhlokcaaGreatDoor
/- readFloat at a text that is read as a float. No condition but its size. -/
namespace Go.Proofs.YtagiddbfhlokcaaGreatDoor
open Go.RowKit
set_option maxRecDepth 100000
set_option maxHeartbeats 4000000
theorem hex_ways (s : ByteArray) (i : Nat) (hall : ∀ c ∈ s.data.toList.drop i, okB c) : (∀ (h : i + 1 < s.size), lowI s[i + 1] ≠ 120) := by
  intro h
  have hm : s[i + 1] ∈ s.data.toList.drop i := by
    rw [List.mem_iff_getElem]
    refine ⟨1, by simp; omega, ?_⟩
    rw [List.getElem_drop]
    rfl
  have := hall _ hm
  unfold okB at this
  exact lowI_x _ (by omega) (by omega)
/-- Where the sign ends. -/
structure Sgn (s : ByteArray) (neg : Bool) (sg : Nat) : Prop where
  lt : sg < s.size
  ok : PF.okM false false (s.data.toList.drop sg) = true
  isneg : neg = true → sg = 1 ∧ s.data.toList[0]? = some 45
  ispos : neg = false → sg = 0
theorem Sgn.head {s : ByteArray} {neg : Bool} {sg : Nat} (h : Sgn s neg sg) : 48 ≤ (s[sg]'h.lt).toNat ∧ (s[sg]'h.lt).toNat ≤ 57 := by
  have hl : sg < s.data.toList.length := by have := h.lt; simpa using this
  have hM := h.ok
  rw [List.drop_eq_getElem_cons hl] at hM
  exact okM_head hM
/-- The state of the loop over the mantissa, in its slots. -/
def RdRel (l : List UInt8) (E : PF.RF × List UInt8) (w : World) (man tr i dot saw nd nm dp : Value) (w' : World) : Prop :=
  ∃ (st : PF.RF) (k : Nat) (sv : Bool), PF.Rd l E st k sv ∧ man = .int .u64 (st.man : Int) ∧ tr = .bool st.tr ∧ i = .int .i64 (k : Int) ∧ dot = .bool st.dot ∧ saw = .bool st.saw ∧ nd = .int .i64 (st.ds.length : Int) ∧ nm = .int .i64 (st.nm : Int) ∧ dp = .int .i64 st.dp ∧ w = w'
/-- Behind the loop. -/
def RdEnd (l : List UInt8) (E : PF.RF × List UInt8) (w : World) (man tr i dot saw nd nm dp : Value) (w' : World) : Prop :=
  ∃ (st : PF.RF) (k : Nat), E = (st, l.drop k) ∧ k ≤ l.length ∧ PF.Rest (l.drop k) ∧ st.Ok k ∧ man = .int .u64 (st.man : Int) ∧ tr = .bool st.tr ∧ i = .int .i64 (k : Int) ∧ dot = .bool st.dot ∧ saw = .bool true ∧ nd = .int .i64 (st.ds.length : Int) ∧ nm = .int .i64 (st.nm : Int) ∧ dp = .int .i64 st.dp ∧ w = w'
theorem man_lt {st : PF.RF} {k : Nat} (h : st.Ok k) : st.man < 10000000000000000000 ∧ (st.nm < 19 → st.man < 1000000000000000000) := by
  have h1 := h.man
  refine ⟨Nat.lt_of_lt_of_le h1 ?_, fun hn => Nat.lt_of_lt_of_le h1 ?_⟩
  · exact Nat.pow_le_pow_right (n := 10) (by omega) h.nm19
  · exact (Nat.pow_le_pow_right (n := 10) (by omega) (show st.nm ≤ 18 by omega))
/-- Behind the e and its sign: the digits begin at i. -/
def ExSg (l : List UInt8) (k : Nat) (w : World) (i sgn : Value) (w' : World) : Prop :=
  ∃ (k1 : Nat) (m : Int), k1 < l.length ∧ PF.okD (l.drop k1) = true ∧ PF.exV (l.drop k) = m * PF.exD (l.drop k1) 0 ∧ (m = 1 ∨ m = -1) ∧ i = .int .i64 (k1 : Int) ∧ sgn = .int .i64 m ∧ w = w'
theorem exV_other {x c : UInt8} {t : List UInt8} (h1 : c ≠ 43) (h2 : c ≠ 45) : PF.exV (x :: c :: t) = PF.exD (c :: t) 0 := by
  unfold PF.exV
  split
  · rename_i h; simp at h; exact absurd h.2.1 h2
  · rename_i h; simp at h; exact absurd h.2.1 h1
  · rename_i h; simp at h; rw [h.2]
  · rename_i h; simp at h
theorem okD_ne {t : List UInt8} (h : PF.okD t = true) : t ≠ [] := by rintro rfl; simp [PF.okD] at h
/-- The loop over an exponent's digits. -/
def ExRel (l : List UInt8) (X : Nat) (w : World) (i e : Value) (w' : World) : Prop :=
  ∃ (j x : Nat), j ≤ l.length ∧ (∀ c ∈ l.drop j, 48 ≤ c.toNat ∧ c.toNat ≤ 57) ∧ PF.exD (l.drop j) x = X ∧ x < 100010 ∧ i = .int .i64 (j : Int) ∧ e = .int .i64 (x : Int) ∧ w = w'
theorem exD_cons (c : UInt8) (r : List UInt8) (e : Nat) : PF.exD (c :: r) e = PF.exD r (if e < 10000 then e * 10 + (c.toNat - 48) else e) := rfl
theorem exV_bd {r : List UInt8} (h : PF.Rest r) : -100010 ≤ PF.exV r ∧ PF.exV r ≤ 100010 := by
  rcases h with rfl | ⟨c, t, rfl, _, h⟩
  · simp [PF.exV]
  · obtain ⟨d, u, rfl, hh⟩ := PF.okX_cases h
    have key : ∀ l, PF.okD l = true → PF.exD l 0 < 100010 := by
      intro l hl
      unfold PF.okD at hl
      simp only [Bool.and_eq_true] at hl
      exact PF.exD_lt l 0 hl.2 (by omega)
    rcases hh with ⟨rfl, h2⟩ | ⟨rfl, h2⟩ | ⟨h3, h4, h2⟩
    · have := key _ h2
      show -100010 ≤ (PF.exD u 0 : Int) ∧ (PF.exD u 0 : Int) ≤ 100010
      omega
    · have := key _ h2
      show -100010 ≤ -(PF.exD u 0 : Int) ∧ -(PF.exD u 0 : Int) ≤ 100010
      omega
    · have := key _ h2
      rw [exV_other h3 h4]
      omega
set_option maxHeartbeats 8000000 in
theorem read205 (s : ByteArray) (hsz : s.size ≤ 400) (neg : Bool) (sg : Nat) (hs : Sgn s neg sg) (E : PF.RF × List UInt8) (hEE : PF.RF.run (s.data.toList.drop sg) PF.rf0 = E) (w : World) :
    Calls Tryz.prog 205 #[.string s] w fun e w' => e = .returned (.tuple #[.int .u64 (E.1.man : Int), .int .i64 (PF.expo E), .bool neg, .bool E.1.tr, .bool false, .int .i64 (s.size : Int), .bool true]) ∧ w = w' := by
  have HEE := Lib.hid hEE
  clear hEE
  have hpos := hs.lt
  have hhead : 48 ≤ s[sg].toNat ∧ s[sg].toNat ≤ 57 := hs.head
  have hx := hex_ways s sg (okM_all hs.ok)
  have h0i : ¬(s.size : Int) ≤ 0 := by omega
  have h0j : (0 : Int) < (s.size : Int) := by omega
  have hemp : s ≠ ByteArray.empty := by rintro rfl; simp at hpos
  have HX := Lib.hid hx
  have HS := Lib.hid hs
  have HH := Lib.hid hhead
  clear hx hs hhead
  go_enter Tryz.func205, Tryz.ntmps205
  go_wp2_with fail
  go_step3
  go_upto_block 0 with (fail)
  go_cut [4, 7] from 28 to 35 (fun n i w' => n = .bool neg ∧ i = .int .i64 (sg : Int) ∧ w = w')
  case first =>
    cases hn : neg with
    | true =>
      obtain ⟨rfl, h45⟩ := HS.out.isneg hn
      obtain ⟨c, hc⟩ : ∃ c, s[0] = c := ⟨_, rfl⟩
      have hc2 : c = 45 := by
        have : s.data.toList[0]? = some s[0] := by
          rw [List.getElem?_eq_getElem (by simpa using h0j)]; rfl
        rw [this, hc] at h45
        exact Option.some.inj h45
      have e1 : ((c.toNat : Int) == 43) = false := by rw [hc2]; rfl
      have e2 : ((c.toNat : Int) == 45) = true := by rw [hc2]; rfl
      clear hc2 h45
      go_wp2_with fail
      go_meet
      case rel => exact ⟨by rw [hn], rfl, rfl⟩
    | false =>
      obtain rfl := HS.out.ispos hn
      obtain ⟨c, hc⟩ : ∃ c, s[0] = c := ⟨_, rfl⟩
      have hh := HH.out
      rw [hc] at hh
      have e1 : ((c.toNat : Int) == 43) = false := by rw [beq_eq_false_iff_ne]; omega
      have e2 : ((c.toNat : Int) == 45) = false := by rw [beq_eq_false_iff_ne]; omega
      clear hh
      go_wp2_with fail
      go_meet
      case rel => exact ⟨by rw [hn], rfl, rfl⟩
  case rest =>
    obtain ⟨rfl, rfl, rfl⟩ := hcut
    go_upto_region 12 with (fail)
    go_cut [54] from 36 to 54 (fun h w' => h = .bool false ∧ w = w')
    case first =>
      by_cases h2 : sg + 2 < s.size
      · have h2i : (sg : Int) + 2 < (s.size : Int) := by omega
        obtain ⟨c, hc⟩ : ∃ c, s[sg] = c := ⟨_, rfl⟩
        by_cases h48 : c.toNat = 48
        · have h48i : ((c.toNat : Int) == 48) = true := by rw [beq_iff_eq]; omega
          have h1i : (sg : Int) + 1 < (s.size : Int) := by omega
          obtain ⟨d, hd⟩ : ∃ d, s[sg + 1] = d := ⟨_, rfl⟩
          have hl : (lowI d == 120) = false := by rw [beq_eq_false_iff_ne, ← hd]; exact HX.out (by omega)
          clear h48
          go_wp2_with ((go_at_call 200; refine (lower200 _ _).mono ?_; rintro e w' ⟨rfl, rfl⟩))
          go_meet
          case rel => exact ⟨rfl, rfl⟩
        · have h48i : ((c.toNat : Int) == 48) = false := by rw [beq_eq_false_iff_ne]; omega
          go_wp2_with (fail)
          go_meet
          case rel => exact ⟨rfl, rfl⟩
      · have h2i : ¬(sg : Int) + 2 < (s.size : Int) := by omega
        go_wp2_with (fail)
        go_meet
        case rel => exact ⟨rfl, rfl⟩
    case rest =>
      obtain ⟨rfl, rfl⟩ := hcut
      go_upto_block 1 with (fail)
      go_step3
      go_upto_block 1 with (fail)
      go_cut [2, 5, 7, 9, 13, 14, 15, 16, 17, 18] from 57 to 138 (fun man tr i us dot saw nd nm dp c w' => us = .bool false ∧ RdEnd s.data.toList (PF.RF.run (s.data.toList.drop sg) PF.rf0) w man tr i dot saw nd nm dp w')
      case first =>
        go_wp2_with fail
        go_loopw [2, 5, 7, 9, 13, 14, 15, 16, 17] (fun man tr i us dot saw nd nm dp w' => us = .bool false ∧ RdRel s.data.toList (PF.RF.run (s.data.toList.drop sg) PF.rf0) w man tr i dot saw nd nm dp w') (fun _ _ i _ _ _ _ _ _ _ => s.size - (intOf i).toNat)
        case atStart => exact ⟨rfl, _, sg, _, PF.Rd.start (by have := HS.out.lt; simp; omega) HS.out.ok, rfl, rfl, rfl, rfl, rfl, rfl, rfl, rfl, rfl⟩
        case round =>
          obtain ⟨rfl, ⟨man, ds, nm, dp, dot, saw, tr⟩, k, sv, hrd, rfl, rfl, rfl, rfl, rfl, rfl, rfl, rfl, rfl⟩ := hrel
          have hok := hrd.ok
          have hm := man_lt hok
          have h1 := hok.nd
          have h2 := hok.nm
          have h3 := hok.dpl
          have h4 := hok.dph
          have hkl := hrd.le
          have hle : s.data.toList.length = s.size := by simp
          rw [hle] at hkl
          simp only at hm h1 h2 h3 h4
          have HR := Lib.hid hrd
          clear hok hrd
          by_cases hk : k < s.size
          · have hki : (k : Int) < (s.size : Int) := by omega
            obtain ⟨c, hc⟩ : ∃ c, s[k] = c := ⟨_, rfl⟩
            have hcl : s.data.toList[k]'(by simpa using hk) = c := hc
            have H0 := HR.out
            by_cases hd : PF.isDig c = true
            · have hd2 := (isDig_iff c).1 hd
              have HD := Lib.hid (H0.digit (by simpa using hk) (by rw [hcl]; exact hd))
              rw [hcl] at HD
              have e95 : ((c.toNat : Int) == 95) = false := by rw [beq_eq_false_iff_ne]; omega
              have e46 : ((c.toNat : Int) == 46) = false := by rw [beq_eq_false_iff_ne]; omega
              have e0 : (48 : Int) ≤ (c.toNat : Int) := by omega
              have e9 : (c.toNat : Int) ≤ 57 := by omega
              clear H0 hcl hle hd
              by_cases hz : c = 48 ∧ ds.length = 0
              · have HN := Lib.hid (HD.out.1 hz)
                have e48 : ((c.toNat : Int) == 48) = true := by rw [beq_iff_eq, hz.1]; rfl
                have en : ((ds.length : Int) == 0) = true := by rw [beq_iff_eq]; omega
                clear HD HR hz
                go_wp2_with fail
                go_roundw
                case rel => exact ⟨rfl, _, k + 1, true, HN.out, rfl, rfl, by go_num, rfl, rfl, rfl, rfl, rfl, rfl⟩
                case measure => simp [intOf]; omega
              · by_cases hn : nm < 19
                · have HN := Lib.hid (HD.out.2.1 hz hn)
                  have hni : (nm : Int) < 19 := by omega
                  have hm18 := hm.2 hn
                  by_cases h48 : c = 48
                  · have e48 : ((c.toNat : Int) == 48) = true := by rw [beq_iff_eq, h48]; rfl
                    have e48n : ((c.toNat : Int) != 48) = false := by rw [h48]; rfl
                    have en : ((ds.length : Int) == 0) = false := by rw [beq_eq_false_iff_ne]; intro h; exact hz ⟨h48, by omega⟩
                    have H48 := Lib.hid h48
                    clear HD HR hz h48 hn hm
                    go_wp2_with fail
                    go_roundw
                    case rel => exact ⟨rfl, _, k + 1, true, HN.out, congrArg (Value.int .u64) (by rw [H48.out]; simp), rfl, by go_num, rfl, rfl, by simp, by go_num, rfl, rfl⟩
                    case measure => simp [intOf]; omega
                  · have e48 : ((c.toNat : Int) == 48) = false := by rw [beq_eq_false_iff_ne]; intro h; exact h48 (UInt8.toNat_inj.1 (by have : (48 : UInt8).toNat = 48 := rfl; omega))
                    have e48n : ((c.toNat : Int) != 48) = true := by rw [bne, e48]; rfl
                    have H48 := Lib.hid h48
                    clear HD HR hz h48 hn hm
                    go_wp2_with fail
                    go_roundw
                    case rel => exact ⟨rfl, _, k + 1, true, HN.out, congrArg (Value.int .u64) (by simp only; omega), rfl, by go_num, rfl, rfl, by simp, by go_num, rfl, rfl⟩
                    case measure => simp [intOf]; omega
                · have HN := Lib.hid (HD.out.2.2 hz hn)
                  have hni : ¬(nm : Int) < 19 := by omega
                  by_cases h48 : c = 48
                  · have e48 : ((c.toNat : Int) == 48) = true := by rw [beq_iff_eq, h48]; rfl
                    have e48n : ((c.toNat : Int) != 48) = false := by rw [h48]; rfl
                    have en : ((ds.length : Int) == 0) = false := by rw [beq_eq_false_iff_ne]; intro h; exact hz ⟨h48, by omega⟩
                    have H48 := Lib.hid h48
                    clear HD HR hz h48 hn hm
                    go_wp2_with fail
                    go_roundw
                    case rel => exact ⟨rfl, _, k + 1, true, HN.out, rfl, congrArg Value.bool (by rw [H48.out]; simp), by go_num, rfl, rfl, by simp, rfl, rfl, rfl⟩
                    case measure => simp [intOf]; omega
                  · have e48 : ((c.toNat : Int) == 48) = false := by rw [beq_eq_false_iff_ne]; intro h; exact h48 (UInt8.toNat_inj.1 (by have : (48 : UInt8).toNat = 48 := rfl; omega))
                    have e48n : ((c.toNat : Int) != 48) = true := by rw [bne, e48]; rfl
                    have H48 := Lib.hid h48
                    clear HD HR hz h48 hn hm
                    go_wp2_with fail
                    go_roundw
                    case rel => exact ⟨rfl, _, k + 1, true, HN.out, rfl, congrArg Value.bool (by simp [H48.out]), by go_num, rfl, rfl, by simp, rfl, rfl, rfl⟩
                    case measure => simp [intOf]; omega
            · have hdf : PF.isDig c = false := by simpa using hd
              by_cases h46 : c = 46
              · obtain ⟨hdot, hnx⟩ := H0.point (by simpa using hk) (by rw [hcl]; exact h46)
                have HN := Lib.hid hnx
                obtain rfl : dot = false := hdot
                have e95 : ((c.toNat : Int) == 95) = false := by rw [h46]; rfl
                have e46 : ((c.toNat : Int) == 46) = true := by rw [h46]; rfl
                clear H0 hnx hcl hle HR h46 hd hdf hm
                go_wp2_with fail
                go_roundw
                case rel => exact ⟨rfl, _, k + 1, true, HN.out, rfl, rfl, by go_num, rfl, rfl, rfl, rfl, rfl, rfl⟩
                case measure => simp [intOf]; omega
              · obtain ⟨hce, hE, hsaw, hX⟩ := H0.exp (by simpa using hk) (by rw [hcl]; exact hdf) (by rw [hcl]; exact h46)
                have HE := Lib.hid hE
                have HO := Lib.hid H0
                rw [hcl] at hce
                have HC := Lib.hid hce
                have HXX := Lib.hid hX
                obtain rfl : saw = true := hsaw
                have hc2 : c.toNat = 101 ∨ c.toNat = 69 := by rcases hce with h | h <;> rw [h] <;> simp
                have e95 : ((c.toNat : Int) == 95) = false := by rw [beq_eq_false_iff_ne]; omega
                have e46 : ((c.toNat : Int) == 46) = false := by rw [beq_eq_false_iff_ne]; omega
                have e0 : (48 : Int) ≤ (c.toNat : Int) := by omega
                have e9 : ¬(c.toNat : Int) ≤ 57 := by omega
                have HCL := Lib.hid hcl
                clear H0 hcl hle HR h46 hd hdf hm hce hX hc2 hE
                go_wp2_with fail
                go_meet
                case rel => exact ⟨rfl, _, k, by rw [PF.Rd.cons (k := k) (by simpa using hk)]; exact HE.out, HO.out.le, .inr ⟨_, _, PF.Rd.cons (k := k) (by simpa using hk), by rw [HCL.out]; exact HC.out, HXX.out⟩, HO.out.ok, rfl, rfl, rfl, rfl, rfl, rfl, rfl, rfl, rfl⟩
          · obtain rfl : k = s.size := by omega
            have H0 := HR.out
            rw [← hle] at H0
            obtain ⟨hE, hsaw⟩ := H0.fin
            have HE := Lib.hid hE
            have HO := Lib.hid H0
            obtain rfl : saw = true := hsaw
            have HL := Lib.hid hle
            clear H0 HR hm hE hle
            go_wp2_with fail
            go_meet
            case rel => exact ⟨rfl, _, s.data.toList.length, by rw [List.drop_length]; exact HE.out, Nat.le_refl _, .inl (List.drop_length), HO.out.ok, rfl, rfl, by rw [HL.out], rfl, rfl, rfl, rfl, rfl, rfl⟩
      case rest =>
        obtain ⟨rfl, ⟨man, ds, nm, dp, dot, saw, tr⟩, k, hE, hkl, hR, hO, rfl, rfl, rfl, rfl, rfl, rfl, rfl, rfl, rfl⟩ := hcut
        go_upto_if 142 with (fail)
        go_cut [17] from 143 to 143 (fun d w' => d = .int .i64 (if dot then dp else (ds.length : Int)) ∧ w = w')
        case first =>
          cases dot <;>
          · go_wp2_with fail
            go_meet
            case rel => exact ⟨rfl, rfl⟩
        case rest =>
          obtain ⟨rfl, rfl⟩ := hcut
          have hks : k ≤ s.size := by simpa using hkl
          have hDl : -400 ≤ (if dot then dp else (ds.length : Int)) := by
            have := hO.dpl
            split
            · simp only at this; omega
            · omega
          have hDh : (if dot then dp else (ds.length : Int)) ≤ 400 := by
            have := hO.dph
            have := hO.nd
            simp only at *
            split <;> omega
          have HE := Lib.hid hE
          have HR := Lib.hid hR
          have HO := Lib.hid hO
          have nmh : nm ≤ 19 := hO.nm19
          obtain ⟨D, hD⟩ : ∃ D, (if dot then dp else (ds.length : Int)) = D := ⟨_, rfl⟩
          have HD := Lib.hid hD
          rw [hD] at hDl hDh ⊢
          have hkl2 : k = s.size ∨ ∃ (h : k < s.size), lowI s[k] = 101 ∧ PF.okX (s.data.toList.drop (k + 1)) = true := by
            rcases hR with h | ⟨c, r, h, h2, h3⟩
            · left
              have := congrArg List.length h
              simp at this
              omega
            · right
              have hlt : k < s.data.toList.length := by
                rcases Nat.lt_or_ge k s.data.toList.length with h' | h'
                · exact h'
                · rw [List.drop_of_length_le h'] at h; cases h
              rw [PF.Rd.cons hlt] at h
              injection h with e1 e2
              have e1 : s[k]'(by simpa using hlt) = c := e1
              refine ⟨by simpa using hlt, ?_, by rw [e2]; exact h3⟩
              rw [e1]
              exact lowI_e c (by rcases h2 with h | h <;> rw [h] <;> simp)
          obtain ⟨b, hb⟩ : ∃ b : Bool, b = decide (k < s.size) := ⟨_, rfl⟩
          have HB := Lib.hid hb
          have HK := Lib.hid hkl2
          clear hE hR hO hD hkl hkl2 hb
          go_upto_region 57 with (fail)
          go_cut [161] from 150 to 161 (fun t w' => t = .bool b ∧ w = w')
          case first =>
            rcases HK.out with h | ⟨h, h1, h2⟩
            · have hi : ¬(k : Int) < (s.size : Int) := by omega
              have hd : decide (k < s.size) = false := by simp; omega
              clear h
              go_wp2_with fail
              go_meet
              case rel => exact ⟨by rw [HB.out, hd], rfl⟩
            · have hi : (k : Int) < (s.size : Int) := by omega
              have hd : decide (k < s.size) = true := by simp; omega
              obtain ⟨c, hc⟩ : ∃ c, s[k] = c := ⟨_, rfl⟩
              rw [hc] at h1
              have h1b : (lowI c == 101) = true := by rw [h1]; rfl
              clear h1 h2
              go_wp2_with ((go_at_call 200; refine (lower200 _ _).mono ?_; rintro e w' ⟨rfl, rfl⟩))
              go_meet
              case rel => exact ⟨by rw [HB.out, hd], rfl⟩
          case rest =>
            obtain ⟨rfl, rfl⟩ := hcut
            go_upto_if 161 with (fail)
            go_cut [7, 9, 17, 19, 20] from 162 to 239 (fun i us d a b w' => us = .bool false ∧ i = .int .i64 (s.size : Int) ∧ d = .int .i64 (D + PF.exV (s.data.toList.drop k)) ∧ w = w')
            case first =>
              rcases HK.out with h | ⟨h, h1, h2⟩
              · obtain rfl : b = false := by rw [HB.out]; simp; omega
                have HKS := Lib.hid h
                clear h
                go_wp2_with fail
                go_meet
                case rel => exact ⟨rfl, congrArg (fun n : Nat => Value.int .i64 (n : Int)) HKS.out, congrArg (Value.int .i64) (by rw [HKS.out, List.drop_of_length_le (by simp)]; simp [PF.exV]), rfl⟩
              · obtain rfl : b = true := by rw [HB.out]; simp; omega
                obtain ⟨c, t, hct, hcs⟩ := PF.okX_cases h2
                have hk1 : k + 1 < s.data.toList.length := by
                  rcases Nat.lt_or_ge (k + 1) s.data.toList.length with h' | h'
                  · exact h'
                  · rw [List.drop_of_length_le h'] at hct; cases hct
                have hk0 : k < s.data.toList.length := by omega
                have hk1s : k + 1 < s.size := by simpa using hk1
                rw [PF.Rd.cons hk1] at hct
                injection hct with hc ht
                have hc : s[k + 1] = c := hc
                have hkk : (k : Int) + 1 < (s.size : Int) := by omega
                have hkk2 : ¬(s.size : Int) ≤ (k : Int) + 1 := by omega
                have h43 : (43 : UInt8).toNat = 43 := rfl
                have h45 : (45 : UInt8).toNat = 45 := rfl
                have HT := Lib.hid ht
                have HCS := Lib.hid hcs
                have HCC := Lib.hid hc
                clear ht hcs h1 h2 hc
                go_upto_block 4 with (fail)
                go_cut [7, 19] from 171 to 178 (fun i sgn w' => ExSg s.data.toList k w i sgn w')
                case first =>
                  rcases HCS.out with ⟨rfl, hD2⟩ | ⟨rfl, hD2⟩ | ⟨n43, n45, hD2⟩
                  · have e43 : ((s[k + 1].toNat : Int) == 43) = true := by rw [HCC.out]; rfl
                    have HD2 := Lib.hid hD2
                    clear hD2
                    go_wp2_with fail
                    go_meet
                    case rel =>
                      have hne := okD_ne HD2.out
                      rw [← HT.out] at hne
                      have hlt : k + 1 + 1 < s.data.toList.length := by
                        rcases Nat.lt_or_ge (k + 1 + 1) s.data.toList.length with h' | h'
                        · exact h'
                        · exact absurd (List.drop_of_length_le h') hne
                      exact ⟨k + 1 + 1, 1, hlt, by rw [HT.out]; exact HD2.out, by rw [PF.Rd.cons hk0, PF.Rd.cons hk1, HT.out, show s.data.toList[k + 1] = 43 from HCC.out, Int.one_mul]; rfl, .inl rfl, by go_num, rfl, rfl⟩
                  · have e43 : ((s[k + 1].toNat : Int) == 43) = false := by rw [HCC.out]; rfl
                    have e45 : ((s[k + 1].toNat : Int) == 45) = true := by rw [HCC.out]; rfl
                    have HD2 := Lib.hid hD2
                    clear hD2
                    go_wp2_with fail
                    go_meet
                    case rel =>
                      have hne := okD_ne HD2.out
                      rw [← HT.out] at hne
                      have hlt : k + 1 + 1 < s.data.toList.length := by
                        rcases Nat.lt_or_ge (k + 1 + 1) s.data.toList.length with h' | h'
                        · exact h'
                        · exact absurd (List.drop_of_length_le h') hne
                      exact ⟨k + 1 + 1, -1, hlt, by rw [HT.out]; exact HD2.out, by rw [PF.Rd.cons hk0, PF.Rd.cons hk1, HT.out, show s.data.toList[k + 1] = 45 from HCC.out, Int.neg_one_mul]; rfl, .inr rfl, by go_num, rfl, rfl⟩
                  · have e43 : ((s[k + 1].toNat : Int) == 43) = false := by rw [HCC.out, beq_eq_false_iff_ne]; intro h; exact n43 (UInt8.toNat_inj.1 (by omega))
                    have e45 : ((s[k + 1].toNat : Int) == 45) = false := by rw [HCC.out, beq_eq_false_iff_ne]; intro h; exact n45 (UInt8.toNat_inj.1 (by omega))
                    have HD2 := Lib.hid hD2
                    have N43 := Lib.hid n43
                    have N45 := Lib.hid n45
                    clear hD2 n43 n45
                    go_wp2_with fail
                    go_meet
                    case rel => exact ⟨k + 1, 1, hk1, by rw [PF.Rd.cons hk1, HT.out, show s.data.toList[k + 1] = c from HCC.out]; exact HD2.out, by rw [PF.Rd.cons hk0, PF.Rd.cons hk1, HT.out, show s.data.toList[k + 1] = c from HCC.out, Int.one_mul]; exact exV_other N43.out N45.out, .inl rfl, by go_num, rfl, rfl⟩
                case rest =>
                  obtain ⟨k1, m, hk1l, hDD, hV, hm1, rfl, rfl, rfl⟩ := hcut
                  have hk1z : k1 < s.size := by simpa using hk1l
                  have hall := (okD_all hDD).2
                  have hdk : 48 ≤ s[k1].toNat ∧ s[k1].toNat ≤ 57 := by
                    rw [PF.Rd.cons hk1l] at hall
                    exact hall _ (List.mem_cons_self ..)
                  have HALL := Lib.hid hall
                  have HV := Lib.hid hV
                  have HM := Lib.hid hm1
                  have mb : -1 ≤ m ∧ m ≤ 1 := by omega
                  obtain ⟨mb1, mb2⟩ := mb
                  clear hDD hall hV HCC HT HCS hm1
                  go_upto_region 67 with (fail)
                  go_cut [194] from 179 to 194 (fun t w' => t = .bool false ∧ w = w')
                  case first =>
                    have i1 : (k1 : Int) < (s.size : Int) := by omega
                    have i2 : ¬(s.size : Int) ≤ (k1 : Int) := by omega
                    obtain ⟨z, hz⟩ : ∃ z, s[k1] = z := ⟨_, rfl⟩
                    rw [hz] at hdk
                    have z1 : ¬(z.toNat : Int) < 48 := by omega
                    have z2 : ¬(57 : Int) < (z.toNat : Int) := by omega
                    clear hdk
                    go_wp2_with fail
                    go_meet
                    case rel => exact ⟨rfl, rfl⟩
                  case rest =>
                    obtain ⟨rfl, rfl⟩ := hcut
                    go_wp2_with fail
                    go_loopw [7, 9, 20] (fun i us e w' => us = .bool false ∧ ExRel s.data.toList (PF.exD (s.data.toList.drop k1) 0) w i e w') (fun i _ _ _ => s.size - (intOf i).toNat)
                    case atStart => exact ⟨rfl, k1, 0, by omega, HALL.out, rfl, by omega, rfl, rfl, rfl⟩
                    case round =>
                      obtain ⟨rfl, j, x, hj, ha, hX, hx, rfl, rfl, rfl⟩ := hrel
                      have hjs : j ≤ s.size := by simpa using hj
                      by_cases hjl : j < s.size
                      · have hjl2 : j < s.data.toList.length := by simpa using hjl
                        obtain ⟨z, hz⟩ : ∃ z, s[j] = z := ⟨_, rfl⟩
                        have hzz : s.data.toList[j] = z := hz
                        rw [PF.Rd.cons hjl2, hzz] at ha hX
                        have hzd := ha z (List.mem_cons_self ..)
                        have ha2 : ∀ c ∈ s.data.toList.drop (j + 1), 48 ≤ c.toNat ∧ c.toNat ≤ 57 := fun c hc => ha c (List.mem_cons_of_mem _ hc)
                        have HA := Lib.hid ha2
                        have HXX := Lib.hid hX
                        have z1 : (48 : Int) ≤ (z.toNat : Int) := by omega
                        have z2 : (z.toNat : Int) ≤ 57 := by omega
                        have z3 : ((z.toNat : Int) == 95) = false := by rw [beq_eq_false_iff_ne]; omega
                        have i1 : (j : Int) < (s.size : Int) := by omega
                        clear ha ha2 hX hzz hzd hj
                        by_cases hx4 : x < 10000
                        · have hx5 : (x : Int) < 10000 := by omega
                          go_wp2_with fail
                          go_roundw
                          case rel => exact ⟨rfl, j + 1, x * 10 + (z.toNat - 48), hjl2, HA.out, by rw [← HXX.out, exD_cons, if_pos hx4], by omega, by go_num, congrArg (Value.int .i64) (by omega), rfl⟩
                          case measure => simp [intOf]; omega
                        · have hx5 : ¬(x : Int) < 10000 := by omega
                          go_wp2_with fail
                          go_roundw
                          case rel => exact ⟨rfl, j + 1, x, hjl2, HA.out, by rw [← HXX.out, exD_cons, if_neg hx4], by omega, by go_num, rfl, rfl⟩
                          case measure => simp [intOf]; omega
                      · have i1 : ¬(j : Int) < (s.size : Int) := by omega
                        rw [List.drop_of_length_le (by simp; omega)] at hX
                        have hX : x = PF.exD (s.data.toList.drop k1) 0 := hX
                        have HXX := Lib.hid hX
                        have hb1 : -100010 ≤ (x : Int) * m := by
                          rcases HM.out with h | h <;> rw [h] <;> omega
                        have hb2 : (x : Int) * m ≤ 100010 := by
                          rcases HM.out with h | h <;> rw [h] <;> omega
                        have HJ : Hid (j = s.size) := Lib.hid (by omega)
                        clear ha hX
                        go_wp2_with fail
                        go_meet
                        case rel => exact ⟨rfl, by rw [HJ.out], congrArg (Value.int .i64) (by rw [HV.out, ← HXX.out, Int.mul_comm]), rfl⟩
            case rest =>
              obtain ⟨rfl, rfl, rfl, rfl⟩ := hcut
              obtain ⟨V, hV⟩ : ∃ V, PF.exV (s.data.toList.drop k) = V := ⟨_, rfl⟩
              have hVb := exV_bd HR.out
              rw [hV] at hVb ⊢
              obtain ⟨hv1, hv2⟩ := hVb
              have HV := Lib.hid hV
              clear hV
              by_cases hman : man = 0
              · have hmi : ((man : Int) != 0) = false := by rw [hman]; rfl
                have HMN := Lib.hid hman
                clear hman
                go_wp2_with fail
                rw [Exit.noGoto_ret]
                refine bodyPost_ret (v := .tuple #[.int .u64 (man : Int), .int .i64 0, .bool neg, .bool tr, .bool false, .int .i64 (s.size : Int), .bool true]) (by simp [results, Tryz.results205, go_sem]) rfl ⟨?_, rfl⟩
                rw [← HEE.out, HE.out]
                unfold PF.expo
                simp only
                rw [if_pos HMN.out]
              · have hmi : ((man : Int) != 0) = true := by simp; omega
                have HMN := Lib.hid hman
                clear hman
                go_wp2_with fail
                rw [Exit.noGoto_ret]
                refine bodyPost_ret (v := .tuple #[.int .u64 (man : Int), .int .i64 (D + V - nm), .bool neg, .bool tr, .bool false, .int .i64 (s.size : Int), .bool true]) (by simp [results, Tryz.results205, go_sem]) rfl ⟨?_, rfl⟩
                rw [← HEE.out, HE.out]
                unfold PF.expo PF.RF.nd
                simp only
                rw [if_neg HMN.out, HV.out, HD.out]
end Go.Proofs.YtagiddbfhlokcaaGreatDoor
/- A text that is read as a float, laid as a decimal. Condition: the decimal's block. -/
namespace Go.Proofs.YtagiddbfhlokcaaGreatDoor
open Go.RowKit Go.Dcm
set_option maxRecDepth 100000
/-- The state of the loop over the digits. -/
def SdRel (b : Nat) (l : List UInt8) (E : PF.RF × List UInt8) (neg : Bool) (w : World) (i dot saw : Value) (w' : World) : Prop :=
  ∃ (st : PF.RF) (k : Nat) (sv : Bool) (f : Nat → Nat), PF.Rd l E st k sv ∧ i = .int .i64 (k : Int) ∧ dot = .bool st.dot ∧ saw = .bool st.saw ∧ DAt 267 w' b f st.ds.length st.dp neg false ∧ Digs f st.ds ∧ Below b w w'
/-- Behind the loop. -/
def SdEnd (b : Nat) (l : List UInt8) (E : PF.RF × List UInt8) (neg : Bool) (w : World) (i dot saw : Value) (w' : World) : Prop :=
  ∃ (st : PF.RF) (k : Nat) (f : Nat → Nat), E = (st, l.drop k) ∧ k ≤ l.length ∧ PF.Rest (l.drop k) ∧ st.Ok k ∧ i = .int .i64 (k : Int) ∧ dot = .bool st.dot ∧ saw = .bool true ∧ DAt 267 w' b f st.ds.length st.dp neg false ∧ Digs f st.ds ∧ Below b w w'
theorem SdRel.drew {b : Nat} {l : List UInt8} {E : PF.RF × List UInt8} {neg : Bool} {w : World} {i dot saw : Value} {w' : World} (h : SdRel b l E neg w i dot saw w') : SdRel b l E neg w i dot saw w'.drew := by
  obtain ⟨st, k, sv, f, h1, h2, h3, h4, h5, h6, h7⟩ := h
  exact ⟨st, k, sv, f, h1, h2, h3, h4, h5.drew 1, h6, h7.drew⟩
/-- What 'set' leaves. -/
def SdPost (b : Nat) (E : PF.RF × List UInt8) (neg : Bool) (w : World) (e : Ending) (w' : World) : Prop :=
  e = .returned (.bool true) ∧ ∃ f, DAt 267 w' b f E.1.ds.length ((if E.1.dot then E.1.dp else (E.1.ds.length : Int)) + PF.exV E.2) neg false ∧ Digs f E.1.ds ∧ Below b w w'
set_option maxHeartbeats 8000000 in
theorem set211 (s : ByteArray) (hsz : s.size ≤ 400) (neg : Bool) (sg : Nat) (hs : Sgn s neg sg) (E : PF.RF × List UInt8) (hEE : PF.RF.run (s.data.toList.drop sg) PF.rf0 = E) (b : Nat) (f0 : Nat → Nat) (w : World) (hD : DAt 267 w b f0 0 0 false false) :
    Calls Tryz.prog 211 #[.pointer (some ⟨b, 0, none⟩), .string s] w (SdPost b E neg w) := by
  have HEE := Lib.hid hEE
  clear hEE
  have hpos := hs.lt
  have hhead : 48 ≤ s[sg].toNat ∧ s[sg].toNat ≤ 57 := hs.head
  have h0i : ¬(s.size : Int) ≤ 0 := by omega
  have h0j : (0 : Int) < (s.size : Int) := by omega
  have hemp : s ≠ ByteArray.empty := by rintro rfl; simp at hpos
  have HS := Lib.hid hs
  have HH := Lib.hid hhead
  have c2 := hD.cneg
  have c3 := hD.ctr
  have f2 := hD.free 802
  have f3 := hD.free 803
  have HD := Lib.hid hD
  clear hs hhead hD
  go_enter Tryz.func211, Tryz.ntmps211
  go_upto_block 0 with (fail)
  go_cut [5] from 23 to 33 (fun i w' => i = .int .i64 (sg : Int) ∧ DAt 267 w' b f0 0 0 neg false ∧ Below b w w')
  case first =>
    have HD2 := Lib.hid ((HD.out.setNeg false).setTr false)
    have c2' := HD2.out.cneg
    have f2' := HD2.out.free 802
    have HB2 := Lib.hid (((Below.refl b w).setCell (p := ⟨b, 802, none⟩) (Nat.le_refl _) (.bool false)).setCell (p := ⟨b, 803, none⟩) (Nat.le_refl _) (.bool false))
    cases hn : neg with
    | true =>
      obtain ⟨rfl, h45⟩ := HS.out.isneg hn
      obtain ⟨c, hc⟩ : ∃ c, s[0] = c := ⟨_, rfl⟩
      have hc2 : c = 45 := by
        have : s.data.toList[0]? = some s[0] := by
          rw [List.getElem?_eq_getElem (by simpa using h0j)]; rfl
        rw [this, hc] at h45
        exact Option.some.inj h45
      have e1 : ((c.toNat : Int) == 43) = false := by rw [hc2]; rfl
      have e2 : ((c.toNat : Int) == 45) = true := by rw [hc2]; rfl
      clear hc2 h45
      go_wp2_with fail
      go_meet
      case rel => exact ⟨rfl, by rw [hn]; exact HD2.out.setNeg true, HB2.out.setCell (p := ⟨b, 802, none⟩) (Nat.le_refl _) _⟩
    | false =>
      obtain rfl := HS.out.ispos hn
      obtain ⟨c, hc⟩ : ∃ c, s[0] = c := ⟨_, rfl⟩
      have hh := HH.out
      rw [hc] at hh
      have e1 : ((c.toNat : Int) == 43) = false := by rw [beq_eq_false_iff_ne]; omega
      have e2 : ((c.toNat : Int) == 45) = false := by rw [beq_eq_false_iff_ne]; omega
      clear hh
      go_wp2_with fail
      go_meet
      case rel => exact ⟨rfl, by rw [hn]; exact HD2.out, HB2.out⟩
  case rest =>
    obtain ⟨rfl, hd0, hb0⟩ := hcut
    have HD0 := Lib.hid hd0
    have HB0 := Lib.hid hb0
    clear hd0 hb0
    go_upto_block 1 with (fail)
    go_cut [5, 6, 7] from 34 to 116 (fun i dot saw w' => SdEnd b s.data.toList (PF.RF.run (s.data.toList.drop sg) PF.rf0) neg w i dot saw w')
    case first =>
      go_wp2_with fail
      go_loopw [5, 6, 7] (fun i dot saw w' => SdRel b s.data.toList (PF.RF.run (s.data.toList.drop sg) PF.rf0) neg w i dot saw w') (fun i _ _ _ => s.size - (intOf i).toNat)
      case atStart => exact ⟨_, sg, _, f0, PF.Rd.start (by have := HS.out.lt; simp; omega) HS.out.ok, rfl, rfl, rfl, HD0.out, fun i hi => by simp [PF.rf0] at hi, HB0.out⟩
      case round =>
        obtain ⟨⟨man, ds, nm, dp, dot, saw, tr⟩, k, sv, f, hrd, rfl, rfl, rfl, hd, hdg, hb⟩ := hrel
        have hok := hrd.ok
        have h1 := hok.nd
        have h3 := hok.dpl
        have h4 := hok.dph
        have hkl := hrd.le
        have hle : s.data.toList.length = s.size := by simp
        rw [hle] at hkl
        simp only at h1 h3 h4 hd hdg
        have HR := Lib.hid hrd
        have HDD := Lib.hid hd
        have HDG := Lib.hid hdg
        have HB := Lib.hid hb
        have cn := hd.cnd
        have cp := hd.cdp
        have fn := hd.free 800
        have fp := hd.free 801
        clear hok hrd hd hdg hb
        by_cases hk : k < s.size
        · have hki : (k : Int) < (s.size : Int) := by omega
          obtain ⟨c, hc⟩ : ∃ c, s[k] = c := ⟨_, rfl⟩
          have hcl : s.data.toList[k]'(by simpa using hk) = c := hc
          have H0 := HR.out
          by_cases hd : PF.isDig c = true
          · have hd2 := (isDig_iff c).1 hd
            have HD := Lib.hid (H0.digit (by simpa using hk) (by rw [hcl]; exact hd))
            rw [hcl] at HD
            have e95 : ((c.toNat : Int) == 95) = false := by rw [beq_eq_false_iff_ne]; omega
            have e46 : ((c.toNat : Int) == 46) = false := by rw [beq_eq_false_iff_ne]; omega
            have e0 : (48 : Int) ≤ (c.toNat : Int) := by omega
            have e9 : (c.toNat : Int) ≤ 57 := by omega
            clear H0 hcl hle hd
            by_cases hz : c = 48 ∧ ds.length = 0
            · have HN := Lib.hid (HD.out.1 hz)
              have e48 : ((c.toNat : Int) == 48) = true := by rw [beq_iff_eq, hz.1]; rfl
              have en : ((ds.length : Int) == 0) = true := by rw [beq_iff_eq]; omega
              clear HD HR hz
              go_wp2_with fail
              go_roundw
              case rel => exact ⟨_, k + 1, true, f, HN.out, by go_num, rfl, rfl, HDD.out.setDp _, HDG.out, HB.out.setCell (p := ⟨b, 801, none⟩) (Nat.le_refl _) _⟩
              case measure => simp [intOf]; omega
            · obtain ⟨L, hL⟩ : ∃ L, ds.length = L := ⟨_, rfl⟩
              have HN : Hid (∃ st : PF.RF, PF.Rd s.data.toList (PF.RF.run (s.data.toList.drop sg) PF.rf0) st (k + 1) true ∧ st.ds = ds ++ [c.toNat - 48] ∧ st.dot = dot ∧ st.saw = true ∧ st.dp = dp) := Lib.hid (by
                by_cases hn : nm < 19
                · exact ⟨_, HD.out.2.1 hz hn, rfl, rfl, rfl, rfl⟩
                · exact ⟨_, HD.out.2.2 hz hn, rfl, rfl, rfl, rfl⟩)
              have hz2 : c = 48 → ¬ L = 0 := fun h1 h2 => hz ⟨h1, by rw [hL]; exact h2⟩
              have HLL := Lib.hid hL
              rw [hL] at cn h1
              have l8 : (L : Int) < 800 := by omega
              have cw := HDD.out.dig (i := L) (by omega)
              have fw := HDD.out.free L
              have HST : Hid (SdRel b s.data.toList (PF.RF.run (s.data.toList.drop sg) PF.rf0) neg w (.int .i64 ((k : Int) + 1)) (.bool dot) (.bool true) ((wr.setCell ⟨b, L, none⟩ (.int .u8 (c.toNat : Int))).setCell ⟨b, 800, none⟩ (.int .i64 ((L : Int) + 1)))) := Lib.hid (by
                obtain ⟨st, q1, q2, q3, q4, q5⟩ := HN.out
                refine ⟨st, k + 1, true, upd f L c.toNat, q1, by go_num, by rw [q3], by rw [q4], ?_, ?_, (HB.out.setCell (p := ⟨b, L, none⟩) (Nat.le_refl _) _).setCell (p := ⟨b, 800, none⟩) (Nat.le_refl _) _⟩
                · have := (HDD.out.setDig (i := L) (by omega) c.toNat).setNd ((L : Int) + 1)
                  rw [q5, q2, List.length_append, List.length_singleton, hL]
                  exact this
                · rw [q2]
                  have := HDG.out.snoc (c.toNat - 48)
                  rw [hL, show 48 + (c.toNat - 48) = c.toNat by omega] at this
                  exact this)
              by_cases h48 : c = 48
              · have e48 : ((c.toNat : Int) == 48) = true := by rw [beq_iff_eq, h48]; rfl
                have en : ((L : Int) == 0) = false := by rw [beq_eq_false_iff_ne]; have := hz2 h48; omega
                clear HD HR hz hz2 h48 hL
                go_wp2_with fail
                go_region
                go_wp2_with fail
                go_roundw
                case rel => exact HST.out.drew
                case measure => simp [intOf]; omega
              · have e48 : ((c.toNat : Int) == 48) = false := by rw [beq_eq_false_iff_ne]; intro h; exact h48 (UInt8.toNat_inj.1 (by have : (48 : UInt8).toNat = 48 := rfl; omega))
                clear HD HR hz hz2 h48 hL
                go_wp2_with fail
                go_region
                go_wp2_with fail
                go_roundw
                case rel => exact HST.out.drew
                case measure => simp [intOf]; omega
          · have hdf : PF.isDig c = false := by simpa using hd
            by_cases h46 : c = 46
            · obtain ⟨hdot, hnx⟩ := H0.point (by simpa using hk) (by rw [hcl]; exact h46)
              have HN := Lib.hid hnx
              obtain rfl : dot = false := hdot
              have e95 : ((c.toNat : Int) == 95) = false := by rw [h46]; rfl
              have e46 : ((c.toNat : Int) == 46) = true := by rw [h46]; rfl
              clear H0 hnx hcl hle HR h46 hd hdf
              go_wp2_with fail
              go_roundw
              case rel => exact ⟨_, k + 1, true, f, HN.out, by go_num, rfl, rfl, HDD.out.setDp _, HDG.out, HB.out.setCell (p := ⟨b, 801, none⟩) (Nat.le_refl _) _⟩
              case measure => simp [intOf]; omega
            · obtain ⟨hce, hE, hsaw, hX⟩ := H0.exp (by simpa using hk) (by rw [hcl]; exact hdf) (by rw [hcl]; exact h46)
              have HE := Lib.hid hE
              have HO := Lib.hid H0
              rw [hcl] at hce
              have HC := Lib.hid hce
              have HXX := Lib.hid hX
              obtain rfl : saw = true := hsaw
              have hc2 : c.toNat = 101 ∨ c.toNat = 69 := by rcases hce with h | h <;> rw [h] <;> simp
              have e95 : ((c.toNat : Int) == 95) = false := by rw [beq_eq_false_iff_ne]; omega
              have e46 : ((c.toNat : Int) == 46) = false := by rw [beq_eq_false_iff_ne]; omega
              have e0 : (48 : Int) ≤ (c.toNat : Int) := by omega
              have e9 : ¬(c.toNat : Int) ≤ 57 := by omega
              have HCL := Lib.hid hcl
              clear H0 hcl hle HR h46 hd hdf hce hX hc2 hE
              go_wp2_with fail
              go_meet
              case rel => exact ⟨_, k, f, by rw [PF.Rd.cons (k := k) (by simpa using hk)]; exact HE.out, HO.out.le, .inr ⟨_, _, PF.Rd.cons (k := k) (by simpa using hk), by rw [HCL.out]; exact HC.out, HXX.out⟩, HO.out.ok, rfl, rfl, rfl, HDD.out, HDG.out, HB.out⟩
        · obtain rfl : k = s.size := by omega
          have H0 := HR.out
          rw [← hle] at H0
          obtain ⟨hE, hsaw⟩ := H0.fin
          have HE := Lib.hid hE
          have HO := Lib.hid H0
          obtain rfl : saw = true := hsaw
          have HL := Lib.hid hle
          clear H0 HR hE hle
          go_wp2_with fail
          go_meet
          case rel => exact ⟨_, s.data.toList.length, f, by rw [List.drop_length]; exact HE.out, Nat.le_refl _, .inl (List.drop_length), HO.out.ok, by rw [HL.out], rfl, rfl, HDD.out, HDG.out, HB.out⟩
    case rest =>
      obtain ⟨⟨man, ds, nm, dp, dot, saw, tr⟩, k, f, hE, hkl, hR, hO, rfl, rfl, rfl, hd, hdg, hb⟩ := hcut
      simp only at hd hdg
      have HDD := Lib.hid hd
      have HDG := Lib.hid hdg
      have HB := Lib.hid hb
      have cn := hd.cnd
      have cp := hd.cdp
      have fp := hd.free 801
      clear hd hdg hb
      obtain ⟨D, hD⟩ : ∃ D, (if dot then dp else (ds.length : Int)) = D := ⟨_, rfl⟩
      have hDl : -400 ≤ D := by
        have := hO.dpl
        have hks : k ≤ s.size := by simpa using hkl
        rw [← hD]
        split
        · simp only at this; omega
        · omega
      have hDh : D ≤ 400 := by
        have := hO.dph
        have := hO.nd
        have hks : k ≤ s.size := by simpa using hkl
        simp only at *
        rw [← hD]
        split <;> omega
      have HD := Lib.hid hD
      have HE := Lib.hid hE
      have HR := Lib.hid hR
      clear hE hD hO
      go_upto_if 120 with (fail)
      go_cut [121] from 122 to 127 (fun x w' => DAt 267 w' b f ds.length D neg false ∧ Below b w w')
      case first =>
        cases dot
        · go_wp2_with fail
          go_meet
          case rel => exact ⟨by rw [← HD.out]; exact HDD.out.setDp _, HB.out.setCell (p := ⟨b, 801, none⟩) (Nat.le_refl _) _⟩
        · go_wp2_with fail
          go_meet
          case rel => exact ⟨by rw [← HD.out]; exact HDD.out, HB.out⟩
      case rest =>
        obtain ⟨hd, hb⟩ := hcut
        rename World => w3
        have cp3 := hd.cdp
        have fp3 := hd.free 801
        have HD3 := Lib.hid hd
        have HB3 := Lib.hid hb
        clear hd hb
        have hkl2 : k = s.size ∨ ∃ (h : k < s.size), lowI s[k] = 101 ∧ PF.okX (s.data.toList.drop (k + 1)) = true := by
          rcases hR with h | ⟨c, r, h, h2, h3⟩
          · left
            have := congrArg List.length h
            simp at this
            have hks : k ≤ s.size := by simpa using hkl
            omega
          · right
            have hlt : k < s.data.toList.length := by
              rcases Nat.lt_or_ge k s.data.toList.length with h' | h'
              · exact h'
              · rw [List.drop_of_length_le h'] at h; cases h
            rw [PF.Rd.cons hlt] at h
            injection h with e1 e2
            have e1 : s[k]'(by simpa using hlt) = c := e1
            refine ⟨by simpa using hlt, ?_, by rw [e2]; exact h3⟩
            rw [e1]
            exact lowI_e c (by rcases h2 with h | h <;> rw [h] <;> simp)
        obtain ⟨bb, hbb⟩ : ∃ b : Bool, b = decide (k < s.size) := ⟨_, rfl⟩
        have HBB := Lib.hid hbb
        have HK := Lib.hid hkl2
        have hks : k ≤ s.size := by simpa using hkl
        clear hR hkl hkl2 hbb
        go_upto_region 32 with (fail)
        go_cut [138] from 128 to 138 (fun t w' => t = .bool bb ∧ w3 = w')
        case first =>
          rcases HK.out with h | ⟨h, h1, h2⟩
          · have hi : ¬(k : Int) < (s.size : Int) := by omega
            have hd : decide (k < s.size) = false := by simp; omega
            clear h
            go_wp2_with fail
            go_meet
            case rel => exact ⟨by rw [HBB.out, hd], rfl⟩
          · have hi : (k : Int) < (s.size : Int) := by omega
            have hd : decide (k < s.size) = true := by simp; omega
            obtain ⟨c, hc⟩ : ∃ c, s[k] = c := ⟨_, rfl⟩
            rw [hc] at h1
            have h1b : (lowI c == 101) = true := by rw [h1]; rfl
            clear h1 h2
            go_wp2_with ((go_at_call 200; refine (lower200 _ _).mono ?_; rintro e w' ⟨rfl, rfl⟩))
            go_meet
            case rel => exact ⟨by rw [HBB.out, hd], rfl⟩
        case rest =>
          obtain ⟨rfl, rfl⟩ := hcut
          go_upto_if 138 with (fail)
          go_cut [5, 8, 9] from 139 to 219 (fun i x y w' => i = .int .i64 (s.size : Int) ∧ DAt 267 w' b f ds.length (D + PF.exV (s.data.toList.drop k)) neg false ∧ Below b w w')
          case first =>
            rcases HK.out with h | ⟨h, h1, h2⟩
            · obtain rfl : bb = false := by rw [HBB.out]; simp; omega
              have HKS := Lib.hid h
              clear h
              go_wp2_with fail
              go_meet
              case rel => exact ⟨congrArg (fun n : Nat => Value.int .i64 (n : Int)) HKS.out, by rw [HKS.out, List.drop_of_length_le (by simp), show PF.exV [] = 0 from rfl, Int.add_zero]; exact HD3.out, HB3.out⟩
            · obtain rfl : bb = true := by rw [HBB.out]; simp; omega
              obtain ⟨c, t, hct, hcs⟩ := PF.okX_cases h2
              have hk1 : k + 1 < s.data.toList.length := by
                rcases Nat.lt_or_ge (k + 1) s.data.toList.length with h' | h'
                · exact h'
                · rw [List.drop_of_length_le h'] at hct; cases hct
              have hk0 : k < s.data.toList.length := by omega
              have hk1s : k + 1 < s.size := by simpa using hk1
              rw [PF.Rd.cons hk1] at hct
              injection hct with hc ht
              have hc : s[k + 1] = c := hc
              have hkk : (k : Int) + 1 < (s.size : Int) := by omega
              have hkk2 : ¬(s.size : Int) ≤ (k : Int) + 1 := by omega
              have h43 : (43 : UInt8).toNat = 43 := rfl
              have h45 : (45 : UInt8).toNat = 45 := rfl
              have HT := Lib.hid ht
              have HCS := Lib.hid hcs
              have HCC := Lib.hid hc
              clear ht hcs h1 h2 hc
              go_upto_block 4 with (fail)
              go_cut [5, 8] from 148 to 155 (fun i sgn w' => ExSg s.data.toList k w3 i sgn w')
              case first =>
                rcases HCS.out with ⟨rfl, hD2⟩ | ⟨rfl, hD2⟩ | ⟨n43, n45, hD2⟩
                · have e43 : ((s[k + 1].toNat : Int) == 43) = true := by rw [HCC.out]; rfl
                  have HD2 := Lib.hid hD2
                  clear hD2
                  go_wp2_with fail
                  go_meet
                  case rel =>
                    have hne := okD_ne HD2.out
                    rw [← HT.out] at hne
                    have hlt : k + 1 + 1 < s.data.toList.length := by
                      rcases Nat.lt_or_ge (k + 1 + 1) s.data.toList.length with h' | h'
                      · exact h'
                      · exact absurd (List.drop_of_length_le h') hne
                    exact ⟨k + 1 + 1, 1, hlt, by rw [HT.out]; exact HD2.out, by rw [PF.Rd.cons hk0, PF.Rd.cons hk1, HT.out, show s.data.toList[k + 1] = 43 from HCC.out, Int.one_mul]; rfl, .inl rfl, by go_num, rfl, rfl⟩
                · have e43 : ((s[k + 1].toNat : Int) == 43) = false := by rw [HCC.out]; rfl
                  have e45 : ((s[k + 1].toNat : Int) == 45) = true := by rw [HCC.out]; rfl
                  have HD2 := Lib.hid hD2
                  clear hD2
                  go_wp2_with fail
                  go_meet
                  case rel =>
                    have hne := okD_ne HD2.out
                    rw [← HT.out] at hne
                    have hlt : k + 1 + 1 < s.data.toList.length := by
                      rcases Nat.lt_or_ge (k + 1 + 1) s.data.toList.length with h' | h'
                      · exact h'
                      · exact absurd (List.drop_of_length_le h') hne
                    exact ⟨k + 1 + 1, -1, hlt, by rw [HT.out]; exact HD2.out, by rw [PF.Rd.cons hk0, PF.Rd.cons hk1, HT.out, show s.data.toList[k + 1] = 45 from HCC.out, Int.neg_one_mul]; rfl, .inr rfl, by go_num, rfl, rfl⟩
                · have e43 : ((s[k + 1].toNat : Int) == 43) = false := by rw [HCC.out, beq_eq_false_iff_ne]; intro h; exact n43 (UInt8.toNat_inj.1 (by omega))
                  have e45 : ((s[k + 1].toNat : Int) == 45) = false := by rw [HCC.out, beq_eq_false_iff_ne]; intro h; exact n45 (UInt8.toNat_inj.1 (by omega))
                  have HD2 := Lib.hid hD2
                  have N43 := Lib.hid n43
                  have N45 := Lib.hid n45
                  clear hD2 n43 n45
                  go_wp2_with fail
                  go_meet
                  case rel => exact ⟨k + 1, 1, hk1, by rw [PF.Rd.cons hk1, HT.out, show s.data.toList[k + 1] = c from HCC.out]; exact HD2.out, by rw [PF.Rd.cons hk0, PF.Rd.cons hk1, HT.out, show s.data.toList[k + 1] = c from HCC.out, Int.one_mul]; exact exV_other N43.out N45.out, .inl rfl, by go_num, rfl, rfl⟩
              case rest =>
                obtain ⟨k1, m, hk1l, hDD, hV, hm1, rfl, rfl, rfl⟩ := hcut
                have hk1z : k1 < s.size := by simpa using hk1l
                have hall := (okD_all hDD).2
                have hdk : 48 ≤ s[k1].toNat ∧ s[k1].toNat ≤ 57 := by
                  rw [PF.Rd.cons hk1l] at hall
                  exact hall _ (List.mem_cons_self ..)
                have HALL := Lib.hid hall
                have HV := Lib.hid hV
                have HM := Lib.hid hm1
                have mb : -1 ≤ m ∧ m ≤ 1 := by omega
                obtain ⟨mb1, mb2⟩ := mb
                clear hDD hall hV HCC HT HCS hm1
                go_upto_region 42 with (fail)
                go_cut [171] from 156 to 171 (fun t w' => t = .bool false ∧ w3 = w')
                case first =>
                  have i1 : (k1 : Int) < (s.size : Int) := by omega
                  have i2 : ¬(s.size : Int) ≤ (k1 : Int) := by omega
                  obtain ⟨z, hz⟩ : ∃ z, s[k1] = z := ⟨_, rfl⟩
                  rw [hz] at hdk
                  have z1 : ¬(z.toNat : Int) < 48 := by omega
                  have z2 : ¬(57 : Int) < (z.toNat : Int) := by omega
                  clear hdk
                  go_wp2_with fail
                  go_meet
                  case rel => exact ⟨rfl, rfl⟩
                case rest =>
                  obtain ⟨rfl, rfl⟩ := hcut
                  go_wp2_with fail
                  go_loopw [5, 9] (fun i e w' => ExRel s.data.toList (PF.exD (s.data.toList.drop k1) 0) w3 i e w') (fun i _ _ => s.size - (intOf i).toNat)
                  case atStart => exact ⟨k1, 0, by omega, HALL.out, rfl, by omega, rfl, rfl, rfl⟩
                  case round =>
                    obtain ⟨j, x, hj, ha, hX, hx, rfl, rfl, rfl⟩ := hrel
                    have hjs : j ≤ s.size := by simpa using hj
                    by_cases hjl : j < s.size
                    · have hjl2 : j < s.data.toList.length := by simpa using hjl
                      obtain ⟨z, hz⟩ : ∃ z, s[j] = z := ⟨_, rfl⟩
                      have hzz : s.data.toList[j] = z := hz
                      rw [PF.Rd.cons hjl2, hzz] at ha hX
                      have hzd := ha z (List.mem_cons_self ..)
                      have ha2 : ∀ c ∈ s.data.toList.drop (j + 1), 48 ≤ c.toNat ∧ c.toNat ≤ 57 := fun c hc => ha c (List.mem_cons_of_mem _ hc)
                      have HA := Lib.hid ha2
                      have HXX := Lib.hid hX
                      have z1 : (48 : Int) ≤ (z.toNat : Int) := by omega
                      have z2 : (z.toNat : Int) ≤ 57 := by omega
                      have z3 : ((z.toNat : Int) == 95) = false := by rw [beq_eq_false_iff_ne]; omega
                      have i1 : (j : Int) < (s.size : Int) := by omega
                      clear ha ha2 hX hzz hzd hj
                      by_cases hx4 : x < 10000
                      · have hx5 : (x : Int) < 10000 := by omega
                        go_wp2_with fail
                        go_roundw
                        case rel => exact ⟨j + 1, x * 10 + (z.toNat - 48), hjl2, HA.out, by rw [← HXX.out, exD_cons, if_pos hx4], by omega, by go_num, congrArg (Value.int .i64) (by omega), rfl⟩
                        case measure => simp [intOf]; omega
                      · have hx5 : ¬(x : Int) < 10000 := by omega
                        go_wp2_with fail
                        go_roundw
                        case rel => exact ⟨j + 1, x, hjl2, HA.out, by rw [← HXX.out, exD_cons, if_neg hx4], by omega, by go_num, rfl, rfl⟩
                        case measure => simp [intOf]; omega
                    · have i1 : ¬(j : Int) < (s.size : Int) := by omega
                      rw [List.drop_of_length_le (by simp; omega)] at hX
                      have hX : x = PF.exD (s.data.toList.drop k1) 0 := hX
                      have HXX := Lib.hid hX
                      have hb1 : -100010 ≤ (x : Int) * m := by
                        rcases HM.out with h | h <;> rw [h] <;> omega
                      have hb2 : (x : Int) * m ≤ 100010 := by
                        rcases HM.out with h | h <;> rw [h] <;> omega
                      have HJ : Hid (j = s.size) := Lib.hid (by omega)
                      clear ha hX
                      go_wp2_with fail
                      go_meet
                      case rel => exact ⟨by rw [HJ.out], by rw [HV.out, ← HXX.out, Int.mul_comm m]; exact HD3.out.setDp _, HB3.out.setCell (p := ⟨b, 801, none⟩) (Nat.le_refl _) _⟩
          case rest =>
            obtain ⟨rfl, hd, hb⟩ := hcut
            have HD4 := Lib.hid hd
            have HB4 := Lib.hid hb
            clear hd hb
            go_wp2_with fail
            go_ret
            exact ⟨rfl, f, by rw [← HEE.out, HE.out]; dsimp only; rw [HD.out]; exact HD4.out, by rw [← HEE.out, HE.out]; exact HDG.out, HB4.out⟩
end Go.Proofs.YtagiddbfhlokcaaGreatDoor
/- atof64 at a text that is read as a float. Conditions: the tables. -/
namespace Go.Proofs.YtagiddbfhlokcaaGreatDoor
open Go.RowKit Go.Dcm
set_option maxRecDepth 100000
theorem cell_lt {w : World} {p : Addr} {v : Value} (h : w.cell? p = some v) : p.block < w.heap.size := by
  rcases Nat.lt_or_ge p.block w.heap.size with h' | h'
  · exact h'
  · unfold World.cell? at h
    rw [Array.getElem?_eq_none h'] at h
    simp at h
/-- What ParseFloat reads of the world. -/
structure PEnv (T : Nat → Nat × Nat) (F : Nat → Nat) (B2 o2 B o : Nat) (S : Nat → ByteArray) (w : World) : Prop where
  pow : Pow T w
  tl : TabLt T
  flo : Flo F w
  fb : FB 7 B2 o2 B o S w
  op : w.cell? ⟨6, 0, none⟩ = some (.bool true)
section
variable {T : Nat → Nat × Nat} {F : Nat → Nat} {B2 o2 B o : Nat} {S : Nat → ByteArray} {w w' : World}
theorem PEnv.lts (h : PEnv T F B2 o2 B o S w) : 16 < w.heap.size ∧ 7 < w.heap.size ∧ B2 < w.heap.size ∧ B < w.heap.size ∧ 15 < w.heap.size :=
  ⟨cell_lt h.fb.ch.v, cell_lt h.fb.m, by have := cell_lt (h.fb.pt 0 (by omega)); simpa using this, by have := cell_lt (h.fb.ch.d 1 (by omega) (by omega)); simpa using this, cell_lt (h.pow.c0 0 (by omega))⟩
theorem Pow.below {b : Nat} (h : Pow T w) (hb : Below b w w') (h15 : 15 < b) : Pow T w' :=
  ⟨fun k hk => (hb.cell (p := ⟨15, _, none⟩) h15).trans (h.c0 k hk), fun k hk => (hb.cell (p := ⟨15, _, none⟩) h15).trans (h.c1 k hk)⟩
theorem Flo.below (h : Flo F w) (hb : Below w.heap.size w w') : Flo F w' := by
  obtain ⟨h1, h2, g, o', h3, h4⟩ := h
  have hg := cell_lt (h4 0 (by omega))
  exact ⟨(hb.cell (cell_lt h1)).trans h1, h2, g, o', (hb.cell (cell_lt h3)).trans h3, fun k hk => (hb.cell (p := ⟨g, o' + k, none⟩) hg).trans (h4 k hk)⟩
theorem PEnv.below (h : PEnv T F B2 o2 B o S w) (hb : Below w.heap.size w w') : PEnv T F B2 o2 B o S w' := by
  obtain ⟨l16, l7, lB2, lB, l15⟩ := h.lts
  exact ⟨h.pow.below hb l15, h.tl, h.flo.below hb, h.fb.below hb l16 l7 lB2 lB, (hb.cell (cell_lt h.op)).trans h.op⟩
end
/-- A text that is read as a float: its sign. -/
theorem sgn_of {s : ByteArray} (h : PF.decB s.data.toList = true) : ∃ sg, Sgn s (PF.isNeg s.data.toList) sg ∧ s.data.toList.drop sg = PF.body s.data.toList ∧ s.size ≤ 400 := by
  unfold PF.decB at h
  simp only [Bool.and_eq_true, decide_eq_true_eq] at h
  obtain ⟨h1, h2⟩ := h
  have hsz : s.size ≤ 400 := by simpa using h2
  have hlen : s.data.toList.length = s.size := by simp
  by_cases hc : ∃ r, s.data.toList = 45 :: r
  · obtain ⟨r, hr⟩ := hc
    rw [hr] at h1
    have hb : PF.body (45 :: r) = r := rfl
    have hn : PF.isNeg (45 :: r) = true := rfl
    rw [hb] at h1
    refine ⟨1, ?_, by rw [hr]; rfl, hsz⟩
    refine ⟨?_, by rw [hr]; exact h1, fun _ => ⟨rfl, by rw [hr]; rfl⟩, fun h => by rw [hr, hn] at h; cases h⟩
    have : r ≠ [] := by rintro rfl; simp [PF.okM] at h1
    have := List.length_pos_iff.2 this
    rw [hr, List.length_cons] at hlen
    omega
  · have hb : PF.body s.data.toList = s.data.toList := by
      unfold PF.body
      split
      · rename_i r hr; exact absurd ⟨r, hr⟩ hc
      · rfl
    have hn : PF.isNeg s.data.toList = false := by
      unfold PF.isNeg
      split
      · rename_i r hr; exact absurd ⟨r, hr⟩ hc
      · rfl
    rw [hb] at h1
    refine ⟨0, ⟨?_, by rw [List.drop_zero]; exact h1, (fun h => by rw [hn] at h; cases h), fun _ => rfl⟩, by rw [hb]; rfl, hsz⟩
    have : s.data.toList ≠ [] := by intro e; rw [e] at h1; simp [PF.okM] at h1
    have := List.length_pos_iff.2 this
    omega
theorem special_of {s : ByteArray} {neg : Bool} {sg : Nat} (h : Sgn s neg sg) (w : World) : Calls Tryz.prog 204 #[.string s] w fun e w' => e = .returned (.tuple #[.float .f64 0, .int .i64 0, .bool false]) ∧ w = w' := by
  have hh := h.head
  have hl := h.lt
  cases hn : neg with
  | false =>
    obtain rfl := h.ispos hn
    exact special204_digit s ⟨hl, hh⟩ w
  | true =>
    obtain ⟨rfl, h45⟩ := h.isneg hn
    refine special204_minus s ⟨hl, ?_, hh⟩ w
    have : s.data.toList[0]? = some (s[0]'(by omega)) := by
      rw [List.getElem?_eq_getElem (by simp; omega)]; rfl
    rw [this] at h45
    rw [Option.some.inj h45]
    rfl
theorem zero267 : Tryz.zeroCells267 = rowV (fun _ => 0) 0 0 false false := by kernel_rfl
theorem dec_ok {l : List UInt8} (h : PF.decB l = true) (hm : (PF.readF l).1 ≠ 0) : (PF.decOf l).Ok ∧ -110000 ≤ (PF.decOf l).dp ∧ (PF.decOf l).dp ≤ 110000 := by
  unfold PF.decB at h
  simp only [Bool.and_eq_true, decide_eq_true_eq] at h
  obtain ⟨h1, h2⟩ := h
  have hbl : (PF.body l).length ≤ 400 := by
    unfold PF.body
    split
    · rename_i r; simp at h2; omega
    · exact h2
  rw [PF.readF_eq] at hm
  have ok := PF.rf0_ok.run (l := PF.body l)
  have hr := (PF.run_ok (PF.body l) PF.rf0 false h1 (fun h => by cases h)).2
  have hx := exV_bd hr
  unfold PF.decOf
  dsimp only
  obtain ⟨E, hE⟩ : ∃ E, PF.RF.run (PF.body l) PF.rf0 = E := ⟨_, rfl⟩
  rw [hE] at ok hx hm
  rw [hE]
  have hm : E.1.man ≠ 0 := hm
  have hne : E.1.ds ≠ [] := by
    intro e
    have h3 := ok.nm
    rw [e] at h3
    have h4 := ok.man
    rw [show E.1.nm = 0 by simpa using h3] at h4
    simp at h4
    exact hm h4
  have h5 := ok.nd
  have h6 := ok.dpl
  have h7 := ok.dph
  refine ⟨⟨by simp only; omega, ok.dig, ?_⟩, ?_, ?_⟩
  · have h8 := ok.one
    simp only
    revert h8 hne
    cases E.1.ds <;> simp
  · simp only [PF.RF.nd]; split <;> omega
  · simp only [PF.RF.nd]; split <;> omega
def AtPost (s : ByteArray) (r : Nat × Bool) (w : World) (e : Ending) (w' : World) : Prop := e = .returned (.tuple #[.float .f64 r.1, .int .i64 (s.size : Int), errV r.2]) ∧ Below w.heap.size w w'
set_option maxHeartbeats 4000000 in
theorem atof182 (s : ByteArray) (hdec : PF.decB s.data.toList = true) {T : Nat → Nat × Nat} {F : Nat → Nat} {B2 o2 B o : Nat} {S : Nat → ByteArray} {w : World} (hw : PEnv T F B2 o2 B o S w) :
    Calls Tryz.prog 182 #[.string s] w (AtPost s (PF.atof (tabF T) F s.data.toList) w) := by
  obtain ⟨sg, hs, hbody, hsz⟩ := sgn_of hdec
  obtain ⟨R, hR⟩ : ∃ R, PF.atof (tabF T) F s.data.toList = R := ⟨_, rfl⟩
  rw [hR]
  unfold PF.atof at hR
  rw [PF.readF_eq] at hR
  dsimp only at hR
  obtain ⟨neg, hneg⟩ : ∃ neg, PF.isNeg s.data.toList = neg := ⟨_, rfl⟩
  obtain ⟨E, hE⟩ : ∃ E, PF.RF.run (PF.body s.data.toList) PF.rf0 = E := ⟨_, rfl⟩
  rw [hneg, hE] at hR
  rw [hneg] at hs
  have hEE : PF.RF.run (s.data.toList.drop sg) PF.rf0 = E := by rw [hbody]; exact hE
  have M204 := Lib.hid (fun w => special_of hs w)
  have M205 := Lib.hid (fun w => read205 s hsz neg sg hs E hEE w)
  have M211 := Lib.hid (fun b f0 w hD => set211 s hsz neg sg hs E hEE b f0 w hD)
  have M213 := Lib.hid (fun w => bool213 neg w)
  have c6 := hw.op
  have h214 := run214
  have HW := Lib.hid hw
  have wsg : IntKind.u64.wrap (((neg.toNat : Nat) : Int) * 9223372036854775808) = ((PF.sgn neg : Nat) : Int) := by cases neg <;> rfl
  have os : bits BinOp.or IntKind.u64 ((PF.sgn neg : Nat) : Int) 0 = ((PF.sgn neg : Nat) : Int) := by
    have h := bits_or_u64_nat (PF.sgn neg) 0 (by cases neg <;> simp [PF.sgn]) (by omega)
    rw [Nat.or_zero] at h
    exact h
  have oi : bits BinOp.or IntKind.u64 ((PF.sgn neg : Nat) : Int) 9218868437227405312 = ((PF.sgn neg + 9218868437227405312 : Nat) : Int) := by
    have h := bits_or_u64_nat (PF.sgn neg) 9218868437227405312 (by cases neg <;> simp [PF.sgn]) (by omega)
    rw [PF.or_sgn neg _ (by omega)] at h
    exact h
  have HR := Lib.hid hR
  have HDEC := Lib.hid hdec
  have HNEG := Lib.hid hneg
  have HE := Lib.hid hE
  clear hw hs hbody hR hneg hE hEE hdec
  obtain ⟨man, hman⟩ : ∃ m, E.1.man = m := ⟨_, rfl⟩
  obtain ⟨p, hp⟩ : ∃ p, PF.expo E = p := ⟨_, rfl⟩
  obtain ⟨tr, htr⟩ : ∃ t, E.1.tr = t := ⟨_, rfl⟩
  rw [hman, hp, htr] at HR M205
  have HMAN := Lib.hid hman
  clear hman hp htr
  have hRR := HR.out
  by_cases hm0 : man = 0
  · rw [if_pos hm0] at hRR
    have m0 : ((man : Int) == 0) = true := by rw [hm0]; rfl
    have HRR := Lib.hid hRR
    clear hRR hm0
    go_enter Tryz.func182, Tryz.ntmps182
    go_wp2_with fail
    refine (M204.out _).mono ?_
    rintro e w' ⟨rfl, rfl⟩
    go_wp2_with fail
    refine (M205.out _).mono ?_
    rintro e w' ⟨rfl, rfl⟩
    go_wp2_with fail
    refine (M213.out _).mono ?_
    rintro e w' ⟨rfl, rfl⟩
    go_wp2_with fail
    go_ret3
    exact ⟨by rw [← HRR.out]; rfl, Below.refl _ _⟩
  · rw [if_neg hm0] at hRR
    have m0 : ((man : Int) == 0) = false := by rw [beq_eq_false_iff_ne]; omega
    have HM0 : Hid (man ≠ 0) := Lib.hid hm0
    clear hm0
    by_cases h310 : 310 < p
    · rw [if_pos h310] at hRR
      have HRR := Lib.hid hRR
      clear hRR
      go_enter Tryz.func182, Tryz.ntmps182
      go_wp2_with fail
      refine (M204.out _).mono ?_
      rintro e w' ⟨rfl, rfl⟩
      go_wp2_with fail
      refine (M205.out _).mono ?_
      rintro e w' ⟨rfl, rfl⟩
      go_wp2_with fail
      refine (M213.out _).mono ?_
      rintro e w' ⟨rfl, rfl⟩
      go_wp2_with fail
      go_ret3
      exact ⟨by rw [← HRR.out]; rfl, Below.refl _ _⟩
    · rw [if_neg h310] at hRR
      by_cases h345 : p < -345
      · rw [if_pos h345] at hRR
        have HRR := Lib.hid hRR
        clear hRR
        go_enter Tryz.func182, Tryz.ntmps182
        go_wp2_with fail
        refine (M204.out _).mono ?_
        rintro e w' ⟨rfl, rfl⟩
        go_wp2_with fail
        refine (M205.out _).mono ?_
        rintro e w' ⟨rfl, rfl⟩
        go_wp2_with fail
        refine (M213.out _).mono ?_
        rintro e w' ⟨rfl, rfl⟩
        go_wp2_with fail
        go_ret3
        exact ⟨by rw [← HRR.out]; rfl, Below.refl _ _⟩
      · rw [if_neg h345] at hRR
        have hm19 : man < 10000000000000000000 := by rw [← HMAN.out, ← HE.out]; exact (man_lt (PF.rf0_ok.run (l := PF.body s.data.toList))).1
        have hw := HW.out
        have MP := Lib.hid (par216 T hw.tl man (by omega) p (by omega) (by omega) neg w hw.pow hw.lts.2.2.2.2)
        obtain ⟨P1, hP1⟩ : ∃ P, PF.par64 (tabF T) man p neg = P := ⟨_, rfl⟩
        rw [hP1] at MP hRR
        clear hw hP1
        cases tr with
        | false =>
          rw [if_neg (by decide)] at hRR
          have MX := Lib.hid (exact215 F man (by omega) p (by omega) (by omega) neg w HW.out.flo)
          obtain ⟨X, hX⟩ : ∃ X, PF.exact64 F man p neg = X := ⟨_, rfl⟩
          rw [hX] at MX hRR
          clear hX
          cases X with
          | some r =>
            have hRR : (r, false) = R := hRR
            have HRR := Lib.hid hRR
            clear hRR
            go_enter Tryz.func182, Tryz.ntmps182
            go_wp2_with fail
            refine (M204.out _).mono ?_
            rintro e w' ⟨rfl, rfl⟩
            go_wp2_with fail
            refine (M205.out _).mono ?_
            rintro e w' ⟨rfl, rfl⟩
            go_wp2_with fail
            refine (M213.out _).mono ?_
            rintro e w' ⟨rfl, rfl⟩
            go_wp2_with fail
            refine MX.out.mono ?_
            rintro e w' ⟨he, rfl⟩
            obtain ⟨r', h1, rfl⟩ | ⟨h1, _⟩ := he
            · cases h1
              go_wp2_with fail
              go_ret3
              exact ⟨by rw [← HRR.out]; rfl, Below.refl _ _⟩
            · cases h1
          | none =>
            have hRR : P1 = R := hRR
            have HRR := Lib.hid hRR
            clear hRR
            go_enter Tryz.func182, Tryz.ntmps182
            go_wp2_with fail
            refine (M204.out _).mono ?_
            rintro e w' ⟨rfl, rfl⟩
            go_wp2_with fail
            refine (M205.out _).mono ?_
            rintro e w' ⟨rfl, rfl⟩
            go_wp2_with fail
            refine (M213.out _).mono ?_
            rintro e w' ⟨rfl, rfl⟩
            go_wp2_with fail
            refine MX.out.mono ?_
            rintro e w' ⟨he, rfl⟩
            obtain ⟨r', h1, _⟩ | ⟨_, x, rfl⟩ := he
            · cases h1
            · go_wp2_with fail
              refine MP.out.mono ?_
              rintro e w2 ⟨rfl, hb2⟩
              have HB2 := Lib.hid hb2
              clear hb2
              go_wp2_with fail
              go_ret3
              exact ⟨by rw [← HRR.out]; rfl, HB2.out⟩
        | true =>
          rw [if_pos rfl] at hRR
          dsimp only at hRR
          have hRR := hRR
          have HRR := Lib.hid hRR
          clear hRR
          go_enter Tryz.func182, Tryz.ntmps182
          go_wp2_with fail
          refine (M204.out _).mono ?_
          rintro e w' ⟨rfl, rfl⟩
          go_wp2_with fail
          refine (M205.out _).mono ?_
          rintro e w' ⟨rfl, rfl⟩
          go_wp2_with fail
          refine (M213.out _).mono ?_
          rintro e w' ⟨rfl, rfl⟩
          go_wp2_with fail
          refine MP.out.mono ?_
          rintro e w2 ⟨rfl, hb2⟩
          have hw2 := HW.out.below hb2
          have MP2 := Lib.hid (par216 T hw2.tl (man + 1) (by omega) p (by omega) (by omega) neg w2 hw2.pow hw2.lts.2.2.2.2)
          obtain ⟨P2, hP2⟩ : ∃ P, PF.par64 (tabF T) (man + 1) p neg = P := ⟨_, rfl⟩
          obtain ⟨mm, hmm⟩ : ∃ mm : Nat, man + 1 = mm := ⟨_, rfl⟩
          rw [hP2] at MP2
          rw [hmm] at MP2
          have hm1 : (man : Int) + 1 = (mm : Int) := by omega
          have HRR2 : Hid ((if PF.eqF P1.1 P2.1 then P1 else PF.fbits neg (PF.decOf s.data.toList)) = R) := Lib.hid (by rw [← hP2]; exact HRR.out)
          have HW2 := Lib.hid hw2
          have HB2 := Lib.hid hb2
          have HS2 : Hid (w.heap.size ≤ w2.heap.size) := Lib.hid hb2.size
          clear hb2 hw2 hP2 hmm HRR
          go_wp2_with fail
          refine MP2.out.mono ?_
          rintro e w3 ⟨rfl, hb3⟩
          have HB3 := Lib.hid (HB2.out.trans (hb3.mono HS2.out))
          have HS3 : Hid (w2.heap.size ≤ w3.heap.size) := Lib.hid hb3.size
          clear hb3
          cases hq : PF.eqF P1.1 P2.1 with
          | true =>
            have hq2 := hq
            unfold PF.eqF at hq2
            have hq3 : (FloatKind.f64.format.order P1.1 P2.1 == some Ordering.eq) = true := hq2
            have hr : P1 = R := by rw [← HRR2.out, if_pos hq]
            have HR1 := Lib.hid hr
            clear hq hq2 hr
            go_wp2_with fail
            go_ret3
            exact ⟨by rw [← HR1.out]; rfl, HB3.out⟩
          | false =>
            have hq2 := hq
            unfold PF.eqF at hq2
            have hq3 : (FloatKind.f64.format.order P1.1 P2.1 == some Ordering.eq) = false := hq2
            have hr : PF.fbits neg (PF.decOf s.data.toList) = R := by rw [← HRR2.out, if_neg (by rw [hq]; decide)]
            have HR1 := Lib.hid hr
            clear hq hq2 hr
            have HPW := Lib.hid (HW.out.below HB3.out)
            have hdz : DAt 267 (w3.alloc (.cells Tryz.zeroCells267 267)) w3.heap.size (fun _ => 0) 0 0 false false := by
              unfold DAt
              rw [zero267]
              exact heap_alloc_new w3 _
            have MS := Lib.hid (M211.out w3.heap.size _ _ hdz)
            clear hdz
            go_wp2_with fail
            refine MS.out.mono ?_
            rintro e w4 ⟨rfl, f, hd, hg, hb4⟩
            have ha := dec_ok (l := s.data.toList) HDEC.out (by rw [PF.readF_eq, HE.out]; show E.1.man ≠ 0; rw [HMAN.out]; exact HM0.out)
            have hde : PF.decOf s.data.toList = ⟨E.1.ds, (if E.1.dot then E.1.dp else (E.1.ds.length : Int)) + PF.exV E.2, false⟩ := by unfold PF.decOf; rw [HE.out]; rfl
            obtain ⟨a, haa⟩ : ∃ a, PF.decOf s.data.toList = a := ⟨_, rfl⟩
            rw [haa] at ha hde HR1
            have hd' : DAt 267 w4 w3.heap.size f a.ds.length a.dp neg a.tr := by rw [hde]; exact hd
            have hg' : Digs f a.ds := by rw [hde]; exact hg
            obtain ⟨l16, l7, lB2, lB, l15⟩ := HPW.out.lts
            have hb5 : Below w3.heap.size w3 w4 := (Below.alloc (Below.refl _ _) (Nat.le_refl _) _).trans hb4
            have MB := Lib.hid (bits212 w3.heap.size f a neg w4 hd' hg' ha.1 ha.2.1 ha.2.2 ((HPW.out.below hb5).fb) l16 l7 lB2 lB)
            rw [HR1.out] at MB
            have HB5 : Hid (Below w.heap.size w w4) := Lib.hid (HB3.out.trans (hb5.mono (Nat.le_trans HS2.out HS3.out)))
            have HB6 : Hid (w.heap.size ≤ w3.heap.size) := Lib.hid (Nat.le_trans HS2.out HS3.out)
            clear hd hg hb4 ha hde hd' hg' hb5 haa l16 l7 lB2 lB l15
            obtain ⟨r1, r2⟩ := R
            go_wp2_with fail
            refine MB.out.mono ?_
            rintro e w5 ⟨rfl, hb6⟩
            have HB7 := Lib.hid (HB5.out.trans (hb6.mono HB6.out))
            clear hb6
            cases r2
            · go_wp2_with fail
              go_ret3
              exact ⟨rfl, HB7.out⟩
            · go_wp2_with fail
              go_ret3
              exact ⟨rfl, HB7.out⟩
end Go.Proofs.YtagiddbfhlokcaaGreatDoor
/- ParseFloat at a text that is read as a float. Conditions: the tables, the error's variable. -/
namespace Go.Proofs.YtagiddbfhlokcaaGreatDoor
open Go.RowKit Go.Dcm
set_option maxRecDepth 100000
def PPost (r : Nat × Bool) (w : World) (e : Ending) (w' : World) : Prop := e = .returned (.tuple #[.float .f64 r.1, errV r.2]) ∧ Below w.heap.size w w'
section
variable {T : Nat → Nat × Nat} {F : Nat → Nat} {B2 o2 B o : Nat} {S : Nat → ByteArray} {w : World}
theorem prefix141 (s : ByteArray) (hdec : PF.decB s.data.toList = true) (hw : PEnv T F B2 o2 B o S w) :
    Calls Tryz.prog 141 #[.string s, .int .i64 64] w (AtPost s (PF.atof (tabF T) F s.data.toList) w) := by
  have M := Lib.hid (atof182 s hdec hw)
  obtain ⟨R, hR⟩ : ∃ R, PF.atof (tabF T) F s.data.toList = R := ⟨_, rfl⟩
  rw [hR] at M ⊢
  clear hw hdec hR
  go_enter Tryz.func141, Tryz.ntmps141
  go_wp2_with fail
  refine M.out.mono ?_
  rintro e w2 ⟨rfl, hb⟩
  have HB := Lib.hid hb
  clear hb
  go_wp2_with fail
  go_ret3
  exact ⟨rfl, HB.out⟩
theorem parse90 (s : ByteArray) (hdec : PF.decB s.data.toList = true) (hw : PEnv T F B2 o2 B o S w) :
    Calls Tryz.prog 90 #[.string s, .int .i64 64] w (PPost (PF.atof (tabF T) F s.data.toList) w) := by
  have M := Lib.hid (prefix141 s hdec hw)
  obtain ⟨R, hR⟩ : ∃ R, PF.atof (tabF T) F s.data.toList = R := ⟨_, rfl⟩
  rw [hR] at M ⊢
  clear hw hdec hR
  go_enter Tryz.func90, Tryz.ntmps90
  go_wp2_with fail
  refine M.out.mono ?_
  rintro e w2 ⟨rfl, hb⟩
  have HB := Lib.hid hb
  clear hb
  go_wp2_with fail
  go_ret2
  exact ⟨rfl, HB.out⟩
/-- What strconv.ParseFloat answers: the bits; an error just if they are too great. -/
def PfPost (r : Nat × Bool) (w : World) (e : Ending) (w' : World) : Prop :=
  (r.2 = false → e = .returned (.tuple #[.float .f64 r.1, .nilIface])) ∧ (r.2 = true → ∃ N, e = .returned (.tuple #[.float .f64 r.1, .iface 190 (.pointer (some ⟨N, 0, none⟩))])) ∧ Below w.heap.size w w'
def ErrPost (w : World) (e : Ending) (w' : World) : Prop := (∃ N, e = .returned (.iface 190 (.pointer (some ⟨N, 0, none⟩)))) ∧ Below w.heap.size w w'
theorem toErr91 (fn s : ByteArray) (b : Int) (hsz : s.size ≤ 281474976710656) {ev : Value} (hv : w.cell? ⟨3, 0, none⟩ = some ev) (hev : ev = .nilIface ∨ ∃ te pe, ev = .iface te pe) :
    Calls Tryz.prog 91 #[.string fn, .string s, .int .i64 b, .int .i64 64, .iface 189 (.int .i64 1)] w (ErrPost w) := by
  have M := Lib.hid (Tryz.strconv_rangeError fn s ev w hsz hv hev)
  have e1 : ∀ w, (binOp BinOp.eql 104 (.iface 189 (.int .i64 1)) (.iface 189 (.int .i64 2))).run Tryz.prog w = .ok (.bool false) w := fun w => by kernel_rfl
  have e2 : ∀ w, (binOp BinOp.eql 104 (.iface 189 (.int .i64 1)) (.iface 189 (.int .i64 1))).run Tryz.prog w = .ok (.bool true) w := fun w => by kernel_rfl
  clear hsz hv hev
  go_enter Tryz.func91, Tryz.ntmps91
  go_wp2_with fail
  refine M.out.mono ?_
  rintro e w2 ⟨N, rfl, _, _, hb⟩
  have HB := Lib.hid hb
  clear hb
  go_wp2_with fail
  go_ret
  exact ⟨⟨N, rfl⟩, HB.out⟩
theorem parse54 (s : ByteArray) (hdec : PF.decB s.data.toList = true) (hw : PEnv T F B2 o2 B o S w) {ev : Value} (hv : w.cell? ⟨3, 0, none⟩ = some ev) (hev : ev = .nilIface ∨ ∃ te pe, ev = .iface te pe) :
    Calls Tryz.prog 54 #[.string s, .int .i64 64] w (PfPost (PF.atof (tabF T) F s.data.toList) w) := by
  have M := Lib.hid (parse90 s hdec hw)
  obtain ⟨R, hR⟩ : ∃ R, PF.atof (tabF T) F s.data.toList = R := ⟨_, rfl⟩
  rw [hR] at M ⊢
  have hsz : s.size ≤ 281474976710656 := by
    have := (sgn_of hdec).choose_spec.2.2
    omega
  have HSZ := Lib.hid hsz
  have HV := Lib.hid hv
  have HEV := Lib.hid hev
  have HLT := Lib.hid (cell_lt hv)
  clear hw hdec hR hv hev hsz
  obtain ⟨r1, r2⟩ := R
  cases r2 with
  | false =>
    go_enter Tryz.func54, Tryz.ntmps54
    go_wp2_with fail
    refine M.out.mono ?_
    rintro e w2 ⟨rfl, hb⟩
    have HB := Lib.hid hb
    clear hb
    unfold errV
    go_wp2_with fail
    go_ret2
    exact ⟨fun _ => rfl, fun h => by (cases h), HB.out⟩
  | true =>
    go_enter Tryz.func54, Tryz.ntmps54
    go_wp2_with fail
    refine M.out.mono ?_
    rintro e w2 ⟨rfl, hb⟩
    have HB := Lib.hid hb
    have HV2 : Hid (w2.cell? ⟨3, 0, none⟩ = some ev) := Lib.hid ((hb.cell HLT.out).trans HV.out)
    clear hb
    unfold errV
    go_wp2_with fail
    refine (toErr91 _ s 0 HSZ.out HV2.out HEV.out).mono ?_
    rintro e w3 ⟨⟨N, rfl⟩, hb3⟩
    have HB3 := Lib.hid (HB.out.trans (hb3.mono HB.out.size))
    clear hb3
    go_wp2_with fail
    go_ret2
    exact ⟨fun h => by (cases h), fun _ => ⟨N, rfl⟩, HB3.out⟩
end
end Go.Proofs.YtagiddbfhlokcaaGreatDoor
