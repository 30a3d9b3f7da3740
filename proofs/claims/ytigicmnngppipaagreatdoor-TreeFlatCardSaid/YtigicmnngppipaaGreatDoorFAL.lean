/- A decimal shifted to the left. Condition: the decimal's block, the table of how many digits a shift brings. -/
import Derived.Test.YtigicmnngppipaaGreatDoorFAK
import Derived.Deep.Cut
import Derived.Deep.CutRange
namespace Go.Proofs.YtigicmnngppipaaGreatDoor
open Go.RowKit Go.Dcm
set_option maxRecDepth 100000
/-- A product's digits, laid from behind: j are laid. -/
structure Ls (f f' : Nat → Nat) (V K j : Nat) (tr tr' : Bool) : Prop where
  old : ∀ p, p < K - j → f' p = f p
  new : ∀ p, K - j ≤ p → p < K → p < 800 → f' p = 48 + V / 10 ^ (K - 1 - p) % 10
  trc : tr' = (tr || ((PF.dgs V).drop (max 800 (K - j))).any (· ≠ 0))
theorem Ls.start (f : Nat → Nat) {V K : Nat} (hK : (PF.dgs V).length = K) (tr : Bool) : Ls f f V K 0 tr tr :=
  ⟨fun _ _ => rfl, fun p h1 h2 _ => by omega, by rw [List.drop_of_length_le (by omega)]; simp⟩
theorem Ls.step {f f' : Nat → Nat} {V K j : Nat} {tr tr' : Bool} (h : Ls f f' V K j tr tr') (hK : (PF.dgs V).length = K) (hj : j < K) :
    (K - 1 - j < 800 → Ls f (upd f' (K - 1 - j) (48 + V / 10 ^ j % 10)) V K (j + 1) tr tr') ∧ (¬K - 1 - j < 800 → Ls f f' V K (j + 1) tr (tr' || decide (V / 10 ^ j % 10 ≠ 0))) := by
  have e1 : K - 1 - (K - 1 - j) = j := by omega
  constructor
  · intro hp
    refine ⟨?_, ?_, ?_⟩
    · intro p hp1
      rw [upd_ne _ _ (by omega), h.old p (by omega)]
    · intro p h1 h2 h3
      by_cases e : p = K - 1 - j
      · subst e
        rw [upd_same, e1]
      · rw [upd_ne _ _ e, h.new p (by omega) h2 h3]
    · rw [h.trc]
      congr 3
      omega
  · intro hp
    refine ⟨fun p hp1 => h.old p (by omega), ?_, ?_⟩
    · intro p h1 h2 h3
      exact h.new p (by omega) h2 h3
    · rw [h.trc, Bool.or_assoc]
      congr 1
      have hm : max 800 (K - (j + 1)) = K - 1 - j := by omega
      have hm2 : max 800 (K - j) = K - 1 - j + 1 := by omega
      have hlt : K - 1 - j < (PF.dgs V).length := by omega
      rw [hm, hm2, PF.any_drop_step hlt, Bool.or_comm]
      congr 2
      have := PF.dgs_at hK (show K - 1 - j < K by omega)
      rw [List.getElem?_eq_getElem hlt, e1] at this
      rw [Option.some.inj this]
theorem Ls.done {f f' : Nat → Nat} {V K : Nat} {tr tr' : Bool} (h : Ls f f' V K K tr tr') (hK : (PF.dgs V).length = K) : Digs f' ((PF.dgs V).take 800) ∧ tr' = (tr || ((PF.dgs V).drop 800).any (· ≠ 0)) := by
  constructor
  · intro i hi
    rw [List.length_take] at hi
    rw [h.new i (by omega) (by omega) (by omega), List.getD_eq_getElem?_getD, List.getElem?_take_of_lt (by omega), PF.dgs_at hK (by omega), Option.getD_some]
  · rw [h.trc, Nat.sub_self]
    rfl
/-- What a shift leaves. -/
def APost (b : Nat) (w : World) (a : PF.Dec) (neg : Bool) (e : Ending) (w' : World) : Prop := e = .returned (.tuple #[]) ∧ ∃ f, DAt 242 w' b f a.ds.length a.dp neg a.tr ∧ Digs f a.ds ∧ Below b w w'
/-- The table of shifts. -/
structure Cheat (B o : Nat) (S : Nat → ByteArray) (w : World) : Prop where
  v : w.cell? ⟨14, 0, none⟩ = some (.slice (some ⟨B, o, none⟩) 61 61)
  d : ∀ k, 1 ≤ k → k < 61 → w.cell? ⟨B, o + k * 2, none⟩ = some (.int .i64 ((k - PF.cN k + 1 : Nat) : Int))
  s : ∀ k, 1 ≤ k → k < 61 → w.cell? ⟨B, o + k * 2 + 1, none⟩ = some (.string (S k)) ∧ DText (S k) (PF.dgs (5 ^ k))
/-- The loop over the digits, from behind: g are left. -/
def LsRel (b : Nat) (f : Nat → Nat) (ds : List Nat) (V K k : Nat) (dp : Int) (neg tr : Bool) (w : World) (g : Nat) (r wv n : Value) (wr : World) : Prop :=
  ∃ (j : Nat) (R W : Int) (x : Nat) (f' : Nat → Nat) (tr' : Bool), g + j = ds.length ∧ R = (g : Int) - 1 ∧ W = (K : Int) - j ∧ x = PF.nJ ds k j ∧ r = .int .i64 R ∧ wv = .int .i64 W ∧ n = .int .u64 (x : Int) ∧ DAt 242 wr b f' ds.length dp neg tr' ∧ Ls f f' V K j tr tr' ∧ Below b w wr
theorem digs_trim {f : Nat → Nat} {ds : List Nat} (h : Digs f ds) : Digs f (PF.trimL ds) := by
  obtain ⟨t, e, _⟩ := PF.trimL_prefix ds
  intro i hi
  have hl : i < ds.length := by rw [e, List.length_append]; omega
  rw [h i hl]
  conv => lhs; rw [e]
  rw [List.getD_eq_getElem?_getD, List.getD_eq_getElem?_getD, List.getElem?_append_left hi]
theorem apost_of_trim {b : Nat} {w w0 w2 : World} {f : Nat → Nat} {l : List Nat} {dp : Int} {tr neg : Bool} (h : DPost b w0 f (PF.trimL l).length (if PF.trimL l = [] then 0 else dp) neg tr (.returned (.tuple #[])) w2) (hg : Digs f l) (hb : Below b w w0) : APost b w (PF.Dec.trim ⟨l, dp, tr⟩) neg (.returned (.tuple #[])) w2 :=
  ⟨rfl, f, h.2.1, digs_trim hg, hb.trans h.2.2⟩
/-- The loop over what is carried still. -/
def LtRel2 (b : Nat) (f : Nat → Nat) (L V K : Nat) (dp : Int) (neg tr : Bool) (w : World) (g : Nat) (wv n : Value) (wr : World) : Prop :=
  ∃ (j : Nat) (W : Int) (x : Nat) (f' : Nat → Nat) (tr' : Bool), g + j = K ∧ W = (K : Int) - j ∧ x = V / 10 ^ j ∧ x ≤ 1152921504606846976 ∧ wv = .int .i64 W ∧ n = .int .u64 (x : Int) ∧ DAt 242 wr b f' L dp neg tr' ∧ Ls f f' V K j tr tr' ∧ Below b w wr
theorem carried {V K j : Nat} (hV : V ≠ 0) (hK : (PF.dgs V).length = K) : V / 10 ^ j ≠ 0 ↔ j < K := by
  obtain ⟨a, b, c⟩ := PF.dgs_len V hV
  rw [hK] at a b c
  have hp : 0 < 10 ^ j := Nat.pow_pos (by omega)
  constructor
  · intro h
    rcases Nat.lt_or_ge j K with h' | h'
    · exact h'
    · exact absurd (Nat.div_eq_of_lt (Nat.lt_of_lt_of_le b (Nat.pow_le_pow_right (by omega) h'))) h
  · intro h
    have h2 : 10 ^ j ≤ V := Nat.le_trans (Nat.pow_le_pow_right (by omega) (show j ≤ K - 1 by omega)) a
    have := Nat.div_pos h2 hp
    omega
theorem slice_arr (b L : Nat) (hL : L ≤ 800) (w : World) : (Instr.sliceAt 240 (.pointer (some ⟨b, 0, none⟩)) (some (.int .i64 0)) (some (.int .i64 (L : Int))) none).run Tryz.prog w = .ok (.slice (some ⟨b, 0, none⟩) L 800) w := by
  simp [Instr.sliceAt, Instr.sliceBounds, Instr.sliceBound, asIntOf, go_sem]
  omega
set_option maxHeartbeats 2000000 in
theorem left257 (b : Nat) (f : Nat → Nat) (a : PF.Dec) (neg : Bool) (w : World) (hD : DAt 242 w b f a.ds.length a.dp neg a.tr) (hg : Digs f a.ds) (ha : a.Ok) (hp1 : -1000000 ≤ a.dp) (hp2 : a.dp ≤ 1000000) (k : Nat) (hk : 1 ≤ k) (hk60 : k ≤ 60) {B o : Nat} {S : Nat → ByteArray} (hc : Cheat B o S w) :
    Calls Tryz.prog 220 #[.pointer (some ⟨b, 0, none⟩), .int .u64 (k : Int)] w (APost b w (a.lsh k) neg) := by
  obtain ⟨V, hV⟩ : ∃ V, PF.val a.ds * 2 ^ k = V := ⟨_, rfl⟩
  obtain ⟨K, hK⟩ : ∃ K, (PF.dgs V).length = K := ⟨_, rfl⟩
  obtain ⟨lt, hlt⟩ : ∃ lt, PF.plt a.ds (PF.dgs (5 ^ k)) = lt := ⟨_, rfl⟩
  have hlen := PF.lsh_len ha hk
  rw [hV, hK, hlt] at hlen
  obtain ⟨c1, c2, c3, c4⟩ := PF.cN_spec hk
  have v := hc.v
  have d := hc.d k hk (by omega)
  obtain ⟨s, hs⟩ := hc.s k hk (by omega)
  have cn := hD.cnd
  have hle := ha.len
  obtain ⟨D, hDD⟩ : ∃ D : Nat, k - PF.cN k + 1 = D := ⟨_, rfl⟩
  rw [hDD] at d hlen
  have hD1 : 1 ≤ D := by omega
  have hD60 : D ≤ 60 := by omega
  have m273 : ∀ n, Calls Tryz.prog 240 #[.slice (some ⟨b, 0, none⟩) a.ds.length 800, .string (S k)] (w.drewN n) fun e w' => e = .returned (.bool lt) ∧ ∃ m, w' = w.drewN m := by
    intro n
    rw [← hlt]
    exact (less273 b f a.ds a.ds.length a.dp neg a.tr _ (hD.drew n) hg hle (S k) (PF.dgs (5 ^ k)) hs 800).mono fun e w' ⟨h1, m, h2⟩ => ⟨h1, n + m, by rw [h2, World.drewN_drewN]⟩
  obtain ⟨L, hLL⟩ : ∃ L, a.ds.length = L := ⟨_, rfl⟩
  rw [hLL] at m273
  have M273 := Lib.hid m273
  have k61 : (k : Int) < 61 := by omega
  have hKL : a.ds.length ≤ K := by rw [hlen]; split <;> omega
  have hKb : K ≤ 1000 := by rw [hlen]; split <;> omega
  obtain ⟨T, hT⟩ : ∃ T : Int, (K : Int) - (a.ds.length : Int) = T := ⟨_, rfl⟩
  have hT2 : T = (D : Int) - (if lt then 1 else 0) := by rw [← hT, hlen]; split <;> omega
  have HT := Lib.hid hT
  have HT2 := Lib.hid hT2
  have HL := Lib.hid hlen
  have HV := Lib.hid hV
  have HK := Lib.hid hK
  have HD := Lib.hid hD
  have HG := Lib.hid hg
  have HA := Lib.hid ha
  have HLL := Lib.hid hLL
  rw [hLL] at hle cn hKL
  have hsl := slice_arr b L hle
  clear hc hs hDD m273 hT hT2 hlen hV hK hD hg ha c1 c2 c3 c4 hlt hLL
  go_enter Tryz.func220, Tryz.ntmps220
  go_wp2_with fail
  go_quiet ((go_at_call 240; with_reducible exact M273.out _))
  go_upto_if 30 with (fail)
  go_cut [4] from 31 to 32 (fun d w' => d = .int .i64 T ∧ w.drewN nq = w')
  case first =>
    cases lt
    · obtain rfl : T = (D : Int) := by have := HT2.out; simpa using this
      go_wp2_with fail
      go_meet
      case rel => exact ⟨rfl, rfl⟩
    · obtain rfl : T = (D : Int) - 1 := by have := HT2.out; simpa using this
      go_wp2_with fail
      go_meet
      case rel => exact ⟨rfl, rfl⟩
  case rest =>
    obtain ⟨rfl, rfl⟩ := hcut
    have hTK : (L : Int) + T = (K : Int) := by have := HT.out; rw [HLL.out] at this; omega
    have hT0 : 0 ≤ T := by omega
    have hT1 : T ≤ 1000 := by omega
    go_wp2_with fail
    go_loopg [5, 6, 7] L (fun g r wv n wr => LsRel b f a.ds V K k a.dp neg a.tr w g r wv n wr)
    case atStart => exact ⟨0, (L : Int) - 1, (K : Int), 0, f, a.tr, by rw [HLL.out]; rfl, rfl, by omega, (PF.nJ_zero _ _).symm, rfl, rfl, rfl, HD.out.drew _, Ls.start f HK.out _, Go.below_drewN (Below.refl _ _) _⟩
    case round =>
      obtain ⟨j, R, W, x, f', tr', hj, hR, hW, hx, rfl, rfl, rfl, hd, hls, hbl⟩ := hrel
      cases gk with
      | zero =>
        rw [HLL.out] at hj
        obtain rfl : L = j := by omega
        obtain rfl : R = -1 := by omega
        have hVn : V ≠ 0 := by
          rw [← HV.out]
          exact Nat.mul_ne_zero HA.out.val.2.2.2 (Nat.ne_of_gt (Nat.two_pow_pos _))
        have hx0 : x = V / 10 ^ L := by rw [hx, ← HV.out, ← HLL.out]; exact PF.nJ_full _ _
        have hx9 : x ≤ 1152921504606846976 := by
          have h1 : x < 2 ^ k := by rw [hx]; exact PF.nJ_lt HA.out.dig k (by rw [HLL.out]; exact Nat.le_refl _)
          have h2 : 2 ^ k ≤ 1152921504606846976 := Nat.pow_le_pow_right (n := 2) (by omega) (show k ≤ 60 from hk60)
          omega
        have HST : Hid (LtRel2 b f L V K a.dp neg a.tr w (K - L) (.int .i64 W) (.int .u64 (x : Int)) wr) := Lib.hid ⟨L, W, x, f', tr', by omega, hW, hx0, hx9, rfl, rfl, by rw [HLL.out] at hd; exact hd, hls, hbl⟩
        have HVN := Lib.hid hVn
        clear hd hls hbl hx hW hj hR hVn hx0
        go_wp2_with fail
        go_loopg [6, 7] (K - L) (fun g wv n wr => LtRel2 b f L V K a.dp neg a.tr w g wv n wr)
        case atStart => exact HST.out
        case round =>
          obtain ⟨j, W, x, f', tr', hj, hW, hx, hx9, rfl, rfl, hd, hls, hbl⟩ := hrel
          have HJK := Lib.hid (carried (j := j) HVN.out HK.out)
          by_cases hx0 : x = 0
          · obtain rfl : K = j := by
              have := HJK.out
              rw [← hx] at this
              omega
            obtain ⟨hdg, htr⟩ := hls.done HK.out
            have HDG := Lib.hid hdg
            have HTR := Lib.hid htr
            have HBL := Lib.hid hbl
            have HDD := Lib.hid hd
            have c8 := hd.cnd
            have c9 := hd.cdp
            have f8 := hd.free 800
            have f9 := hd.free 801
            have hlt8 : ((PF.dgs V).take 800).length = min 800 K := by rw [List.length_take, HK.out]
            have HL8 := Lib.hid hlt8
            have HX : Hid (x = 0) := Lib.hid hx0
            have xz : ¬(0 : Int) < (x : Int) := by omega
            have dT : a.dp + T = a.dp + (((PF.dgs (PF.val a.ds * 2 ^ k)).length : Int) - a.ds.length) := by rw [HV.out, HK.out, HLL.out]; omega
            have HDT := Lib.hid dT
            clear hdg htr hbl hd hls hx hx0 hj hW hx9 hlt8 dT
            by_cases hK8 : 800 ≤ K
            · have k8 : (800 : Int) ≤ (K : Int) := by omega
              have H8 : Hid (min 800 K = 800) := Lib.hid (by omega)
              go_wp2_with fail
              refine (trim256 b f' ((PF.dgs V).take 800) (a.dp + T) neg tr' _ (by rw [HL8.out, H8.out]; exact ((HDD.out.setNd _).setNd 800).setDp _) HDG.out (by rw [HL8.out]; omega)).mono ?_
              rintro e w2 h2
              have he := h2.1
              subst he
              have H2 := Lib.hid h2
              clear h2
              go_wp2_with fail
              go_end0
              have hl : a.lsh k = PF.Dec.trim ⟨(PF.dgs V).take 800, a.dp + T, tr'⟩ := by
                rw [HDT.out, HTR.out, ← HV.out]
                rfl
              rw [hl]
              exact apost_of_trim H2.out HDG.out (((HBL.out.setCell (p := ⟨b, 800, none⟩) (Nat.le_refl _) _).setCell (p := ⟨b, 800, none⟩) (Nat.le_refl _) _).setCell (p := ⟨b, 801, none⟩) (Nat.le_refl _) _)
            · have k8 : ¬(800 : Int) ≤ (K : Int) := by omega
              have H8 : Hid (min 800 K = K) := Lib.hid (by omega)
              go_wp2_with fail
              refine (trim256 b f' ((PF.dgs V).take 800) (a.dp + T) neg tr' _ (by rw [HL8.out, H8.out]; exact (HDD.out.setNd _).setDp _) HDG.out (by rw [HL8.out]; omega)).mono ?_
              rintro e w2 h2
              have he := h2.1
              subst he
              have H2 := Lib.hid h2
              clear h2
              go_wp2_with fail
              go_end0
              have hl : a.lsh k = PF.Dec.trim ⟨(PF.dgs V).take 800, a.dp + T, tr'⟩ := by
                rw [HDT.out, HTR.out, ← HV.out]
                rfl
              rw [hl]
              exact apost_of_trim H2.out HDG.out ((HBL.out.setCell (p := ⟨b, 800, none⟩) (Nat.le_refl _) _).setCell (p := ⟨b, 801, none⟩) (Nat.le_refl _) _)
          · obtain ⟨p, hp⟩ : ∃ p : Nat, K - 1 - j = p := ⟨_, rfl⟩
            have hjl : j < K := HJK.out.1 (by rw [← hx]; exact hx0)
            obtain ⟨q, rfl⟩ : ∃ q, gk = q + 1 := ⟨gk - 1, by omega⟩
            have hpW : W - 1 = (p : Int) := by omega
            have hw1 : 1 ≤ W := by omega
            have hw2 : W ≤ 1000 := by omega
            obtain ⟨u, hu⟩ : ∃ u, x / 10 = u := ⟨_, rfl⟩
            have hui : (x : Int) / 10 = (u : Int) := by omega
            obtain ⟨m, hm⟩ : ∃ m, x % 10 = m := ⟨_, rfl⟩
            have hmi : (x : Int) - 10 * (u : Int) = (m : Int) := by omega
            have hm9 : m ≤ 9 := by omega
            have hu9 : u ≤ 1152921504606846976 := by omega
            have hu2 : u = V / 10 ^ (j + 1) := by rw [← hu, hx, Nat.div_div_eq_div_mul, ← Nat.pow_succ]
            have hm2 : m = V / 10 ^ j % 10 := by rw [← hm, hx]
            have xp : (0 : Int) < (x : Int) := by omega
            have HLS := Lib.hid hls
            have HBL := Lib.hid hbl
            have HDD := Lib.hid hd
            have HJ := Lib.hid hj
            have HP := Lib.hid hp
            have HU2 := Lib.hid hu2
            have HLT := Lib.hid hjl
            have hst := hls.step HK.out hjl
            rw [hp, ← hm2] at hst
            have HST := Lib.hid hst
            by_cases hp80 : p < 800
            · have hpi : (p : Int) < 800 := by omega
              have frp := hd.free p
              have cp := hd.dig (i := p) hp80
              clear hx0 hx hm2 hu2 hu hm hls hbl hd hj hW hp hjl hst
              go_wp2_with fail
              go_roundg q
              case measure => omega
              case rel =>
                have hm2 : (48 : Nat) + m = m + 48 := by omega
                have hs := HST.out.1 hp80
                rw [hm2] at hs
                exact ⟨j + 1, (p : Int), u, upd f' p (m + 48), tr', by have := HJ.out; omega, by have := HP.out; have := HLT.out; omega, HU2.out, hu9, rfl, rfl, by have := HDD.out.setDig (i := p) hp80 (m + 48); simpa using this, hs, HBL.out.setCell (p := ⟨b, p, none⟩) (Nat.le_refl _) _⟩
            · have hpi : ¬(p : Int) < 800 := by omega
              have ct := hd.ctr
              have frt := hd.free 803
              have hs := hst.2 hp80
              by_cases hm0 : m = 0
              · have m1 : ((m : Int) != 0) = false := by rw [hm0]; rfl
                rw [hm0, show decide ((0 : Nat) ≠ 0) = false from rfl, Bool.or_false] at hs
                have HS := Lib.hid hs
                clear hx0 hx hm2 hu2 hu hm hls hbl hd hj hW hp hjl hst hm0 hs
                go_wp2_with fail
                go_roundg q
                case measure => omega
                case rel => exact ⟨j + 1, (p : Int), u, f', tr', by have := HJ.out; omega, by have := HP.out; have := HLT.out; omega, HU2.out, hu9, rfl, rfl, HDD.out, HS.out, HBL.out⟩
              · have m1 : ((m : Int) != 0) = true := by rw [bne_iff_ne]; omega
                rw [show decide (m ≠ 0) = true by simpa using hm0, Bool.or_true] at hs
                have HS := Lib.hid hs
                clear hx0 hx hm2 hu2 hu hm hls hbl hd hj hW hp hjl hst hm0 hs
                go_wp2_with fail
                go_roundg q
                case measure => omega
                case rel => exact ⟨j + 1, (p : Int), u, f', true, by have := HJ.out; omega, by have := HP.out; have := HLT.out; omega, HU2.out, hu9, rfl, rfl, HDD.out.setTr true, HS.out, HBL.out.setCell (p := ⟨b, 803, none⟩) (Nat.le_refl _) _⟩
      | succ q =>
        have HLS := Lib.hid hls
        have HBL := Lib.hid hbl
        have HDD := Lib.hid hd
        have HJ := Lib.hid hj
        rw [HLL.out] at hj
        obtain rfl : R = (q : Int) := by omega
        obtain ⟨p, hp⟩ : ∃ p : Nat, K - 1 - j = p := ⟨_, rfl⟩
        have hpW : W - 1 = (p : Int) := by omega
        have hw1 : 1 ≤ W := by omega
        have hw2 : W ≤ 1000 := by omega
        obtain ⟨d1, hd1⟩ : ∃ d1, a.ds.getD (a.ds.length - 1 - j) 0 = d1 := ⟨_, rfl⟩
        have hq : a.ds.length - 1 - j = q := by rw [HLL.out]; omega
        have hst := PF.nJ_step (ds := a.ds) k (j := j) (by rw [HLL.out]; omega)
        rw [← hx, hd1, HV.out] at hst
        rw [hq] at hd1
        have hfq : f' q = 48 + d1 := by rw [hls.old q (by omega), HG.out q (by rw [HLL.out]; omega), hd1]
        have hd9 : d1 ≤ 9 := by
          rw [← hd1, List.getD_eq_getElem?_getD, List.getElem?_eq_getElem (by rw [HLL.out]; omega), Option.getD_some]
          exact HA.out.dig _ (List.getElem_mem _)
        have hx2 : x < 2 ^ k := by rw [hx]; exact PF.nJ_lt HA.out.dig k (by rw [HLL.out]; omega)
        have hk2 : 2 ^ k ≤ 1152921504606846976 := Nat.pow_le_pow_right (n := 2) (by omega) (show k ≤ 60 from hk60)
        have cd := hd.dig (i := q) (by omega)
        obtain ⟨c, hc⟩ : ∃ c, f' q = c := ⟨_, rfl⟩
        rw [hc] at cd hfq
        obtain ⟨y, hy⟩ : ∃ y, d1 * 2 ^ k = y := ⟨_, rfl⟩
        have hy9 : y ≤ 9 * 2 ^ k := by rw [← hy]; exact Nat.mul_le_mul_right _ hd9
        have wy : IntKind.u64.wrap (((c : Int) - 48) * 2 ^ k) = (y : Int) := by
          have e : ((c : Int) - 48) * 2 ^ k = (y : Int) := by
            have : (c : Int) - 48 = (d1 : Int) := by omega
            rw [this, ← hy]; norm_cast
          rw [e, IntKind.wrap_u64]
          omega
        rw [hy] at hst
        obtain ⟨z, hz⟩ : ∃ z, x + y = z := ⟨_, rfl⟩
        have hzi : (x : Int) + (y : Int) = (z : Int) := by omega
        rw [hz] at hst
        obtain ⟨u, hu⟩ : ∃ u, z / 10 = u := ⟨_, rfl⟩
        have hui : (z : Int) / 10 = (u : Int) := by omega
        obtain ⟨m, hm⟩ : ∃ m, z % 10 = m := ⟨_, rfl⟩
        have hmi : (z : Int) - 10 * (u : Int) = (m : Int) := by omega
        have hm9 : m ≤ 9 := by omega
        rw [hu, hm] at hst
        have HST := Lib.hid hst
        have hz8 : z ≤ 11529215046068469760 := by omega
        have hu8 : u ≤ 1152921504606846976 := by omega
        have hc1 : 48 ≤ c := by omega
        have hc2 : c ≤ 57 := by omega
        have hp8 : p ≤ 1000 := by omega
        have HX2 := Lib.hid hx2
        have HK2 := Lib.hid hk2
        have HP := Lib.hid hp
        have fr := hd.free
        have HW := Lib.hid hW
        by_cases hp80 : p < 800
        · have hpi : (p : Int) < 800 := by omega
          have frp := hd.free p
          have cp := hd.dig (i := p) hp80
          have q8 : (q : Int) < 800 := by omega
          have HLT : Hid (j < K) := Lib.hid (by omega)
          clear hx2 hy9 hy hz hu hm hst hls hbl hd hx hj hR hW hfq hd1 hq hc hp hk2 fr hd9
          go_wp2_with fail
          go_roundg q
          case measure => omega
          case rel =>
            have hm2 : (48 : Nat) + m = m + 48 := by omega
            have hs := (HLS.out.step HK.out HLT.out).1 (by rw [HP.out]; exact hp80)
            rw [HP.out, ← HST.out.2, hm2] at hs
            exact ⟨j + 1, (q : Int) - 1, (p : Int), u, upd f' p (m + 48), tr', by have := HJ.out; omega, rfl, by have := HP.out; have := HLT.out; omega, HST.out.1, rfl, rfl, rfl, by have := HDD.out.setDig (i := p) hp80 (m + 48); simpa using this, hs, HBL.out.setCell (p := ⟨b, p, none⟩) (Nat.le_refl _) _⟩
        · have hpi : ¬(p : Int) < 800 := by omega
          have q8 : (q : Int) < 800 := by omega
          have HLT : Hid (j < K) := Lib.hid (by omega)
          have HTR : Hid (Ls f f' V K (j + 1) a.tr (tr' || decide (m ≠ 0))) := Lib.hid (by
            have hs := (hls.step HK.out HLT.out).2 (by rw [hp]; exact hp80)
            rw [← hst.2] at hs
            exact hs)
          have ct := hd.ctr
          have frt := hd.free 803
          by_cases hm0 : m = 0
          · have m1 : ((m : Int) != 0) = false := by rw [hm0]; rfl
            have HM0 := Lib.hid hm0
            clear hx2 hy9 hy hz hu hm hst hls hbl hd hx hj hR hW hfq hd1 hq hc hp hk2 fr hd9 hm0
            go_wp2_with fail
            go_roundg q
            case measure => omega
            case rel =>
              have hs := HTR.out
              rw [HM0.out, show decide ((0 : Nat) ≠ 0) = false from rfl, Bool.or_false] at hs
              exact ⟨j + 1, (q : Int) - 1, (p : Int), u, f', tr', by have := HJ.out; omega, rfl, by have := HP.out; have := HLT.out; omega, HST.out.1, rfl, rfl, rfl, HDD.out, hs, HBL.out⟩
          · have m1 : ((m : Int) != 0) = true := by rw [bne_iff_ne]; omega
            have HM0 := Lib.hid hm0
            clear hx2 hy9 hy hz hu hm hst hls hbl hd hx hj hR hW hfq hd1 hq hc hp hk2 fr hd9 hm0
            go_wp2_with fail
            go_roundg q
            case measure => omega
            case rel =>
              have hs := HTR.out
              rw [show decide (m ≠ 0) = true by simpa using HM0.out, Bool.or_true] at hs
              exact ⟨j + 1, (q : Int) - 1, (p : Int), u, f', true, by have := HJ.out; omega, rfl, by have := HP.out; have := HLT.out; omega, HST.out.1, rfl, rfl, rfl, HDD.out.setTr true, hs, HBL.out.setCell (p := ⟨b, 803, none⟩) (Nat.le_refl _) _⟩
end Go.Proofs.YtigicmnngppipaaGreatDoor
