/- Several texts of this proof, laid together. Conditions: as each says. -/
import Derived.Test.YtigicmnngppipaaGreatDoorFAM
import Derived.ScopeJumps
import Derived.WalkMore
import Derived.Test.YtigicmnngppipaaGreatDoorFAF
import Derived.Test.YtigicmnngppipaaGreatDoorFAJ
import Derived.Test.YtigicmnngppipaaGreatDoorFAH
import Derived.Test.YtigicmnngppipaaGreatDoorFAI
/- Is a decimal to be rounded up; its whole part, rounded. Condition: the decimal's block. -/
namespace Go.Proofs.YtigicmnngppipaaGreatDoor
open Go.RowKit Go.Dcm
set_option maxRecDepth 100000
theorem up259 (b : Nat) (f : Nat → Nat) (a : PF.Dec) (neg : Bool) (w : World) (hD : DAt 242 w b f a.ds.length a.dp neg a.tr) (hg : Digs f a.ds) (ha : a.Ok) (n : Int) (hn : n ≤ 1000000) (hn2 : -1000000 ≤ n) :
    Calls Tryz.prog 222 #[.pointer (some ⟨b, 0, none⟩), .int .i64 n] w fun e w' => e = .returned (.bool (PF.upB a n)) ∧ w = w' := by
  obtain ⟨R, hR⟩ : ∃ R, PF.upB a n = R := ⟨_, rfl⟩
  rw [hR]
  have cn := hD.cnd
  have ct := hD.ctr
  have hle := ha.len
  obtain ⟨L, hL⟩ : ∃ L, a.ds.length = L := ⟨_, rfl⟩
  rw [hL] at cn hle
  unfold PF.upB at hR
  by_cases h1 : n < 0
  · have h1b : decide (n < 0) = true := by simpa using h1
    rw [if_pos (.inl h1)] at hR
    subst hR
    clear hD hg ha hL
    go_enter Tryz.func222, Tryz.ntmps222
    go_wp2_with fail
    go_ret
    exact ⟨rfl, rfl⟩
  · have h1b : decide (n < 0) = false := by simpa using h1
    have h10 : 0 ≤ n := by omega
    by_cases h2 : (L : Int) ≤ n
    · rw [if_pos (.inr (by rw [hL]; exact h2))] at hR
      subst hR
      clear hD hg ha hL
      go_enter Tryz.func222, Tryz.ntmps222
      go_wp2_with fail
      go_ret
      exact ⟨rfl, rfl⟩
    · obtain ⟨i, rfl⟩ : ∃ i : Nat, n = (i : Int) := ⟨n.toNat, by omega⟩
      rw [if_neg (by rw [hL]; omega)] at hR
      simp only [Int.toNat_natCast] at hR
      have i8 : (i : Int) < 800 := by omega
      have i8n : i < 800 := by omega
      have cd := hD.dig (i := i) i8n
      obtain ⟨d, hd⟩ : ∃ d, a.ds.getD i 0 = d := ⟨_, rfl⟩
      have hfc := hg i (by rw [hL]; omega)
      obtain ⟨c, hc⟩ : ∃ c, f i = c := ⟨_, rfl⟩
      rw [hc, hd] at hfc
      rw [hc] at cd
      simp only [hd, hL] at hR
      have hd9 : d ≤ 9 := by
        rw [← hd, List.getD_eq_getElem?_getD, List.getElem?_eq_getElem (by rw [hL]; omega), Option.getD_some]
        exact ha.dig _ (List.getElem_mem _)
      by_cases h5 : d = 5
      · have c53 : ((c : Int) == 53) = true := by rw [beq_iff_eq]; omega
        by_cases h6 : i + 1 = L
        · have e6 : ((i : Int) + 1 == (L : Int)) = true := by rw [beq_iff_eq]; omega
          rw [if_pos ⟨h5, h6⟩] at hR
          cases ht : a.tr with
          | true =>
            rw [ht] at ct hR
            have hR2 : true = R := by rw [← hR]; rfl
            subst hR2
            clear hD hg ha hL hR hc hd hfc h5 ht h6
            go_enter Tryz.func222, Tryz.ntmps222
            go_wp2_with fail
            go_ret
            exact ⟨rfl, rfl⟩
          | false =>
            rw [ht] at ct hR
            rw [Bool.false_or] at hR
            cases i with
            | zero =>
              have hR2 : false = R := by rw [← hR]; rfl
              subst hR2
              obtain rfl : L = 1 := by omega
              clear hD hg ha hL hR hc hd hfc h5 ht h6
              go_enter Tryz.func222, Tryz.ntmps222
              go_wp2_with fail
              go_ret
              exact ⟨rfl, rfl⟩
            | succ j =>
              have cj := hD.dig (i := j) (by omega)
              obtain ⟨x, hx⟩ : ∃ x, a.ds.getD j 0 = x := ⟨_, rfl⟩
              have hfx := hg j (by rw [hL]; omega)
              obtain ⟨y, hy⟩ : ∃ y, f j = y := ⟨_, rfl⟩
              rw [hy, hx] at hfx
              rw [hy] at cj
              have hx9 : x ≤ 9 := by
                rw [← hx, List.getD_eq_getElem?_getD, List.getElem?_eq_getElem (by rw [hL]; omega), Option.getD_some]
                exact ha.dig _ (List.getElem_mem _)
              obtain ⟨m, hm⟩ : ∃ m, x % 2 = m := ⟨_, rfl⟩
              have j1 : j + 1 - 1 = j := by omega
              have j0 : decide (0 < j + 1) = true := decide_eq_true (by omega)
              simp only [j1, hx, hm, j0, Bool.true_and] at hR
              clear j0 j1
              have ym : ((y : Int) - 48) % 2 = (m : Int) := by omega
              have y1 : 48 ≤ y := by omega
              have y2 : y ≤ 57 := by omega
              have mR : ((m : Int) != 0) = R := by rw [← hR]; rcases (show m = 0 ∨ m = 1 by omega) with h | h <;> rw [h] <;> rfl
              have j8 : (j : Int) < 800 := by omega
              obtain ⟨I, hI⟩ : ∃ I : Int, (((j + 1 : Nat)) : Int) = I := ⟨_, rfl⟩
              have hIj : I - 1 = (j : Int) := by omega
              have hI0 : 0 < I := by omega
              have hI8 : I < 800 := by omega
              have cI : w.cell? ⟨b, I.toNat, none⟩ = some (.int .u8 (c : Int)) := by rw [← hI]; exact cd
              rw [hI] at e6 h10 h1b h1 h2 ⊢
              clear hD hg ha hL hR hc hd hfc h5 ht h6 hx hfx hy hm hx9 hI cd i8
              go_enter Tryz.func222, Tryz.ntmps222
              go_wp2_with fail
              go_ret
              exact ⟨rfl, rfl⟩
        · have e6 : ((i : Int) + 1 == (L : Int)) = false := by rw [beq_eq_false_iff_ne]; omega
          rw [if_neg (fun h => h6 h.2)] at hR
          have hR2 : true = R := by rw [← hR, h5]; rfl
          subst hR2
          have c5 : (53 : Int) ≤ (c : Int) := by omega
          clear hD hg ha hL hR hc hd hfc h5 h6
          go_enter Tryz.func222, Tryz.ntmps222
          go_wp2_with fail
          go_ret
          exact ⟨rfl, rfl⟩
      · have c53 : ((c : Int) == 53) = false := by rw [beq_eq_false_iff_ne]; omega
        rw [if_neg (fun h => h5 h.1)] at hR
        by_cases h7 : 5 ≤ d
        · have c5 : (53 : Int) ≤ (c : Int) := by omega
          have hR2 : true = R := by rw [← hR, decide_eq_true h7]
          subst hR2
          clear hD hg ha hL hR hc hd hfc h5 h7
          go_enter Tryz.func222, Tryz.ntmps222
          go_wp2_with fail
          go_ret
          exact ⟨rfl, rfl⟩
        · have c5 : ¬(53 : Int) ≤ (c : Int) := by omega
          have hR2 : false = R := by rw [← hR, decide_eq_false h7]
          subst hR2
          clear hD hg ha hL hR hc hd hfc h5 h7
          go_enter Tryz.func222, Tryz.ntmps222
          go_wp2_with fail
          go_ret
          exact ⟨rfl, rfl⟩
def RI1 (ds : List Nat) (m : Nat) (w : World) (g : Nat) (i n : Value) (wr : World) : Prop :=
  ∃ k x : Nat, g + k = min m ds.length ∧ x = PF.val (ds.take k) % 18446744073709551616 ∧ i = .int .i64 (k : Int) ∧ n = .int .u64 (x : Int) ∧ w = wr
def RI2 (ds : List Nat) (m : Nat) (w : World) (g : Nat) (i n : Value) (wr : World) : Prop :=
  ∃ k x : Nat, g = m - k ∧ k ≤ m ∧ min m ds.length ≤ k ∧ x = PF.val (ds.take m) * 10 ^ (k - ds.length) % 18446744073709551616 ∧ i = .int .i64 (k : Int) ∧ n = .int .u64 (x : Int) ∧ w = wr
theorem val_take_succ {ds : List Nat} {k : Nat} (h : k < ds.length) : PF.val (ds.take (k + 1)) = PF.val (ds.take k) * 10 + ds.getD k 0 := by
  rw [take_snoc h, PF.val_append]
  simp [PF.val]
set_option maxHeartbeats 1000000 in
theorem rint246 (b : Nat) (f : Nat → Nat) (a : PF.Dec) (neg : Bool) (w : World) (hD : DAt 242 w b f a.ds.length a.dp neg a.tr) (hg : Digs f a.ds) (ha : a.Ok) (hp1 : -1000000 ≤ a.dp) (hp2 : a.dp ≤ 1000000) :
    Calls Tryz.prog 262 #[.pointer (some ⟨b, 0, none⟩)] w fun e w' => e = .returned (.int .u64 (PF.rint a : Int)) ∧ w = w' := by
  obtain ⟨R, hR⟩ : ∃ R, PF.rint a = R := ⟨_, rfl⟩
  rw [hR]
  have cn := hD.cnd
  have cp := hD.cdp
  have hle := ha.len
  have hdig := ha.dig
  have M := Lib.hid (up259 b f a neg w hD hg ha a.dp hp2 hp1)
  obtain ⟨L, hL⟩ : ∃ L, a.ds.length = L := ⟨_, rfl⟩
  obtain ⟨p, hp⟩ : ∃ p, a.dp = p := ⟨_, rfl⟩
  obtain ⟨U, hU⟩ : ∃ U, PF.upB a a.dp = U := ⟨_, rfl⟩
  unfold PF.rint at hR
  rw [hU, hp] at M
  rw [hU, hp] at hR
  rw [hL] at cn hle
  rw [hp] at cp hp1 hp2
  have HD := Lib.hid hD
  have HG := Lib.hid hg
  have HL := Lib.hid hL
  have HDIG := Lib.hid hdig
  clear hD hg ha hL hp hU hdig
  by_cases h20 : 20 < p
  · rw [if_pos h20] at hR
    subst hR
    clear hle
    go_enter Tryz.func262, Tryz.ntmps262
    go_wp2_with fail
    go_ret
    exact ⟨rfl, rfl⟩
  · rw [if_neg h20] at hR
    obtain ⟨m, hm⟩ : ∃ m, p.toNat = m := ⟨_, rfl⟩
    have hmp : ∀ k : Nat, ((k : Int) < p ↔ k < m) := fun k => by omega
    rw [hm, HL.out] at hR
    have HR := Lib.hid hR
    have HMP := Lib.hid hmp
    have hm20 : m ≤ 20 := by omega
    clear hR hmp hm
    go_enter Tryz.func262, Tryz.ntmps262
    go_upto_block 0 with (fail)
    go_cut [3, 4] from 10 to 36 (fun i n w' => ∃ g, RI2 a.ds m w g i n w')
    case first =>
      go_wp2_with fail
      go_loopg [3, 4] (min m L) (fun g i n wr => RI1 a.ds m w g i n wr)
      case atStart => exact ⟨0, 0, by rw [HL.out]; rfl, by simp [PF.val], rfl, rfl, rfl⟩
      case round =>
        obtain ⟨k, x, hg, hx, rfl, rfl, rfl⟩ := hrel
        rw [HL.out] at hg
        cases gk with
        | succ q =>
          have k1 : (k : Int) < p := (HMP.out k).2 (by omega)
          have k2 : (k : Int) < (L : Int) := by omega
          have k8 : (k : Int) < 800 := by omega
          have cd := HD.out.dig (i := k) (by omega)
          obtain ⟨d, hd⟩ : ∃ d, a.ds.getD k 0 = d := ⟨_, rfl⟩
          have hfc := HG.out k (by rw [HL.out]; omega)
          obtain ⟨c, hc⟩ : ∃ c, f k = c := ⟨_, rfl⟩
          rw [hc, hd] at hfc
          rw [hc] at cd
          have hd9 : d ≤ 9 := by
            rw [← hd, List.getD_eq_getElem?_getD, List.getElem?_eq_getElem (by rw [HL.out]; omega), Option.getD_some]
            exact HDIG.out _ (List.getElem_mem _)
          have hv := val_take_succ (ds := a.ds) (k := k) (by rw [HL.out]; omega)
          rw [hd] at hv
          have c1 : 48 ≤ c := by omega
          have c2 : c ≤ 57 := by omega
          obtain ⟨y, hy⟩ : ∃ y, x * 10 % 18446744073709551616 = y := ⟨_, rfl⟩
          obtain ⟨z, hz⟩ : ∃ z, (y + d) % 18446744073709551616 = z := ⟨_, rfl⟩
          have wy : IntKind.u64.wrap ((x : Int) * 10) = (y : Int) := by rw [IntKind.wrap_u64]; omega
          have wz : IntKind.u64.wrap ((y : Int) + ((c : Int) - 48)) = (z : Int) := by rw [IntKind.wrap_u64]; omega
          have hzz : z = PF.val (a.ds.take (k + 1)) % 18446744073709551616 := by rw [hv]; omega
          have hz8 : z < 18446744073709551616 := by omega
          have hx8 : x < 18446744073709551616 := by omega
          have hy8 : y < 18446744073709551616 := by omega
          have HST : Hid (RI1 a.ds m w q (.int .i64 ((k : Int) + 1)) (.int .u64 (z : Int)) w) := Lib.hid ⟨k + 1, z, by rw [HL.out]; omega, hzz, by go_num, rfl, rfl⟩
          clear hg hx hd hfc hc hd9 hv hy hz hzz
          go_wp2_with fail
          go_roundg q
          case measure => omega
          case rel => exact HST.out
        | zero =>
          have hx8 : x < 18446744073709551616 := by omega
          have hkm : k = min m L := by omega
          have HST : Hid (RI2 a.ds m w (m - k) (.int .i64 (k : Int)) (.int .u64 (x : Int)) w) := Lib.hid ⟨k, x, rfl, by omega, by rw [HL.out]; omega, by
            rw [hx]
            by_cases h : m ≤ L
            · rw [show k = m by omega, show m - a.ds.length = 0 by rw [HL.out]; omega, Nat.pow_zero, Nat.mul_one]
            · rw [show k - a.ds.length = 0 by rw [HL.out]; omega, Nat.pow_zero, Nat.mul_one, List.take_of_length_le (by rw [HL.out]; omega), List.take_of_length_le (by rw [HL.out]; omega)], rfl, rfl, rfl⟩
          have HKM := Lib.hid hkm
          by_cases hkm2 : k < m
          · have k1 : (k : Int) < p := (HMP.out k).2 hkm2
            have k2 : ¬(k : Int) < (L : Int) := by omega
            clear hg hx hkm hkm2
            go_wp2_with fail
            go_meet
            case rel => exact ⟨_, HST.out⟩
          · have k1 : ¬(k : Int) < p := fun h => hkm2 ((HMP.out k).1 h)
            clear hg hx hkm hkm2
            go_wp2_with fail
            go_meet
            case rel => exact ⟨_, HST.out⟩
    case rest =>
      obtain ⟨g, hst⟩ := hcut
      have HST := Lib.hid hst
      clear hst
      go_wp2_with fail
      go_loopg [3, 4] g (fun g i n wr => RI2 a.ds m w g i n wr)
      case atStart => exact HST.out
      case round =>
        obtain ⟨k, x, hg, hkm, hmk, hx, rfl, rfl, rfl⟩ := hrel
        rw [HL.out] at hmk hx
        by_cases hlt : k < m
        · have k1 : (k : Int) < p := (HMP.out k).2 hlt
          obtain ⟨y, hy⟩ : ∃ y, x * 10 % 18446744073709551616 = y := ⟨_, rfl⟩
          have wy : IntKind.u64.wrap ((x : Int) * 10) = (y : Int) := by rw [IntKind.wrap_u64]; omega
          have hyy : y = PF.val (a.ds.take m) * 10 ^ (k + 1 - L) % 18446744073709551616 := by
            rw [show k + 1 - L = k - L + 1 by omega, Nat.pow_succ, ← Nat.mul_assoc]
            omega
          have hy8 : y < 18446744073709551616 := by omega
          have hx8 : x < 18446744073709551616 := by omega
          have HST2 : Hid (RI2 a.ds m w (gk - 1) (.int .i64 ((k : Int) + 1)) (.int .u64 (y : Int)) w) := Lib.hid ⟨k + 1, y, by omega, by omega, by rw [HL.out]; omega, by rw [HL.out]; exact hyy, by go_num, rfl, rfl⟩
          have HG1 : Hid (0 < gk) := Lib.hid (by omega)
          clear hg hkm hmk hx hlt hy hyy
          go_wp2_with fail
          go_roundg (gk - 1)
          case measure => have := HG1.out; omega
          case rel => exact HST2.out
        · have k1 : ¬(k : Int) < p := fun h => hlt ((HMP.out k).1 h)
          have hkm2 : k = m := by omega
          rw [hkm2] at hx
          have hR := HR.out
          have hx8 : x < 18446744073709551616 := by omega
          cases U with
          | true =>
            have wx : IntKind.u64.wrap ((x : Int) + 1) = (R : Int) := by
              rw [IntKind.wrap_u64, ← hR]
              simp only [Bool.toNat_true]
              omega
            clear hg hkm hmk hx hlt hkm2 hR
            go_wp2_with fail
            refine M.out.mono ?_
            rintro e w' ⟨rfl, rfl⟩
            go_wp2_with fail
            go_ret
            exact ⟨rfl, rfl⟩
          | false =>
            have hxR : R = x := by
              rw [← hR]
              simp only [Bool.toNat_false]
              omega
            subst hxR
            clear hg hkm hmk hx hlt hkm2 hR
            go_wp2_with fail
            refine M.out.mono ?_
            rintro e w' ⟨rfl, rfl⟩
            go_wp2_with fail
            go_ret
            exact ⟨rfl, rfl⟩
end Go.Proofs.YtigicmnngppipaaGreatDoor
/- A scope with several labels; a frame whose slots are read one by one. No condition. -/
namespace Go.Proofs.YtigicmnngppipaaGreatDoor
open Go.RowKit
/-- As Q; by a goto to label l: J l. -/
def Jumps (J : Nat → Act → World → Prop) (Q : Exit → Act → World → Prop) : Exit → Act → World → Prop
  | .goto l, a, w => J l a w
  | e, a, w => Q e a w
theorem wp_scope_labels {P : Program} {a : Act} {w : World} {Q : Exit → Act → World → Prop} {c : Code} (J : Nat → Act → World → Prop) (μ : Nat → Act → World → Nat)
    (first : c.wp P (Jumps J Q) a w)
    (pass : ∀ l a w, J l a w → ∃ rest, findLabel c l = some rest ∧ rest.wp P (Jumps (fun l' a' w' => J l' a' w' ∧ μ l' a' w' < μ l a w) Q) a w) : (Code.scope c).wp P Q a w := by
  intro b k cs
  have key : ∀ n l a w, μ l a w = n → J l a w → ∃ rest, findLabel c l = some rest ∧ ∃ e a' w', Q e a' w' ∧ Arrives P (lone (b.at a (.code rest :: .inScope c :: k)) cs w) b k cs e a' w' := by
    intro n
    induction n using Nat.strongRecOn with
    | _ n ih =>
      intro l a w hn hJ
      obtain ⟨rest, hf, hp⟩ := pass l a w hJ
      refine ⟨rest, hf, ?_⟩
      obtain ⟨e, a₁, w₁, hq, harr⟩ := hp b (.inScope c :: k) cs
      cases e with
      | normal => exact ⟨.normal, a₁, w₁, hq, Steps.trans harr (.one step_inScope)⟩
      | exit id => exact ⟨.exit id, a₁, w₁, hq, fun k' hk => harr k' (by simp [exitTo, hk])⟩
      | goto l' =>
        obtain ⟨hJ', hlt⟩ := hq
        obtain ⟨rest', hf', e₂, a₂, w₂, hq₂, harr₂⟩ := ih _ (by omega) l' a₁ w₁ rfl hJ'
        exact ⟨e₂, a₂, w₂, hq₂, .of_steps (harr _ (by simp [gotoIn, hf'])) harr₂⟩
      | ret => exact ⟨_, a₁, w₁, hq, harr⟩
      | panic ch => exact ⟨_, a₁, w₁, hq, harr⟩
      | outgrown => exact ⟨_, a₁, w₁, hq, harr⟩
  obtain ⟨e, a₁, w₁, hq, harr⟩ := first b (.inScope c :: k) cs
  cases e with
  | normal => exact ⟨.normal, a₁, w₁, hq, .head step_scope (Steps.trans harr (.one step_inScope))⟩
  | exit id => exact ⟨.exit id, a₁, w₁, hq, fun k' hk => .head step_scope (harr k' (by simp [exitTo, hk]))⟩
  | goto l' =>
    obtain ⟨rest, hf, e₂, a₂, w₂, hq₂, harr₂⟩ := key _ l' a₁ w₁ rfl hq
    exact ⟨e₂, a₂, w₂, hq₂, .of_steps (.head step_scope (harr _ (by simp [gotoIn, hf]))) harr₂⟩
  | ret => exact ⟨_, a₁, w₁, hq, .of_steps (.one step_scope) harr⟩
  | panic ch => exact ⟨_, a₁, w₁, hq, .of_steps (.one step_scope) harr⟩
  | outgrown => exact ⟨_, a₁, w₁, hq, .of_steps (.one step_scope) harr⟩
def firstScope : Code → Option Code
  | .scope c => some c
  | .seq a b => match firstScope a with
    | some c => some c
    | none => firstScope b
  | .block _ c => firstScope c
  | _ => none
theorem all_slots (xs : Array Value) (n : Nat) (h : xs.size = n) : xs = ((List.range n).map fun i => xs.getD i undef).toArray := by
  subst h
  apply Array.ext
  · simp
  · intro i h1 h2
    simp [Array.getD, h1]
set_option maxRecDepth 100000 in
theorem slots243 (xs : Array Value) (h : xs.size = 243) : xs = #[xs.getD 0 undef, xs.getD 1 undef, xs.getD 2 undef, xs.getD 3 undef, xs.getD 4 undef, xs.getD 5 undef, xs.getD 6 undef, xs.getD 7 undef, xs.getD 8 undef, xs.getD 9 undef, xs.getD 10 undef, xs.getD 11 undef, xs.getD 12 undef, xs.getD 13 undef, xs.getD 14 undef, xs.getD 15 undef, xs.getD 16 undef, xs.getD 17 undef, xs.getD 18 undef, xs.getD 19 undef, xs.getD 20 undef, xs.getD 21 undef, xs.getD 22 undef, xs.getD 23 undef, xs.getD 24 undef, xs.getD 25 undef, xs.getD 26 undef, xs.getD 27 undef, xs.getD 28 undef, xs.getD 29 undef, xs.getD 30 undef, xs.getD 31 undef, xs.getD 32 undef, xs.getD 33 undef, xs.getD 34 undef, xs.getD 35 undef, xs.getD 36 undef, xs.getD 37 undef, xs.getD 38 undef, xs.getD 39 undef, xs.getD 40 undef, xs.getD 41 undef, xs.getD 42 undef, xs.getD 43 undef, xs.getD 44 undef, xs.getD 45 undef, xs.getD 46 undef, xs.getD 47 undef, xs.getD 48 undef, xs.getD 49 undef, xs.getD 50 undef, xs.getD 51 undef, xs.getD 52 undef, xs.getD 53 undef, xs.getD 54 undef, xs.getD 55 undef, xs.getD 56 undef, xs.getD 57 undef, xs.getD 58 undef, xs.getD 59 undef, xs.getD 60 undef, xs.getD 61 undef, xs.getD 62 undef, xs.getD 63 undef, xs.getD 64 undef, xs.getD 65 undef, xs.getD 66 undef, xs.getD 67 undef, xs.getD 68 undef, xs.getD 69 undef, xs.getD 70 undef, xs.getD 71 undef, xs.getD 72 undef, xs.getD 73 undef, xs.getD 74 undef, xs.getD 75 undef, xs.getD 76 undef, xs.getD 77 undef, xs.getD 78 undef, xs.getD 79 undef, xs.getD 80 undef, xs.getD 81 undef, xs.getD 82 undef, xs.getD 83 undef, xs.getD 84 undef, xs.getD 85 undef, xs.getD 86 undef, xs.getD 87 undef, xs.getD 88 undef, xs.getD 89 undef, xs.getD 90 undef, xs.getD 91 undef, xs.getD 92 undef, xs.getD 93 undef, xs.getD 94 undef, xs.getD 95 undef, xs.getD 96 undef, xs.getD 97 undef, xs.getD 98 undef, xs.getD 99 undef, xs.getD 100 undef, xs.getD 101 undef, xs.getD 102 undef, xs.getD 103 undef, xs.getD 104 undef, xs.getD 105 undef, xs.getD 106 undef, xs.getD 107 undef, xs.getD 108 undef, xs.getD 109 undef, xs.getD 110 undef, xs.getD 111 undef, xs.getD 112 undef, xs.getD 113 undef, xs.getD 114 undef, xs.getD 115 undef, xs.getD 116 undef, xs.getD 117 undef, xs.getD 118 undef, xs.getD 119 undef, xs.getD 120 undef, xs.getD 121 undef, xs.getD 122 undef, xs.getD 123 undef, xs.getD 124 undef, xs.getD 125 undef, xs.getD 126 undef, xs.getD 127 undef, xs.getD 128 undef, xs.getD 129 undef, xs.getD 130 undef, xs.getD 131 undef, xs.getD 132 undef, xs.getD 133 undef, xs.getD 134 undef, xs.getD 135 undef, xs.getD 136 undef, xs.getD 137 undef, xs.getD 138 undef, xs.getD 139 undef, xs.getD 140 undef, xs.getD 141 undef, xs.getD 142 undef, xs.getD 143 undef, xs.getD 144 undef, xs.getD 145 undef, xs.getD 146 undef, xs.getD 147 undef, xs.getD 148 undef, xs.getD 149 undef, xs.getD 150 undef, xs.getD 151 undef, xs.getD 152 undef, xs.getD 153 undef, xs.getD 154 undef, xs.getD 155 undef, xs.getD 156 undef, xs.getD 157 undef, xs.getD 158 undef, xs.getD 159 undef, xs.getD 160 undef, xs.getD 161 undef, xs.getD 162 undef, xs.getD 163 undef, xs.getD 164 undef, xs.getD 165 undef, xs.getD 166 undef, xs.getD 167 undef, xs.getD 168 undef, xs.getD 169 undef, xs.getD 170 undef, xs.getD 171 undef, xs.getD 172 undef, xs.getD 173 undef, xs.getD 174 undef, xs.getD 175 undef, xs.getD 176 undef, xs.getD 177 undef, xs.getD 178 undef, xs.getD 179 undef, xs.getD 180 undef, xs.getD 181 undef, xs.getD 182 undef, xs.getD 183 undef, xs.getD 184 undef, xs.getD 185 undef, xs.getD 186 undef, xs.getD 187 undef, xs.getD 188 undef, xs.getD 189 undef, xs.getD 190 undef, xs.getD 191 undef, xs.getD 192 undef, xs.getD 193 undef, xs.getD 194 undef, xs.getD 195 undef, xs.getD 196 undef, xs.getD 197 undef, xs.getD 198 undef, xs.getD 199 undef, xs.getD 200 undef, xs.getD 201 undef, xs.getD 202 undef, xs.getD 203 undef, xs.getD 204 undef, xs.getD 205 undef, xs.getD 206 undef, xs.getD 207 undef, xs.getD 208 undef, xs.getD 209 undef, xs.getD 210 undef, xs.getD 211 undef, xs.getD 212 undef, xs.getD 213 undef, xs.getD 214 undef, xs.getD 215 undef, xs.getD 216 undef, xs.getD 217 undef, xs.getD 218 undef, xs.getD 219 undef, xs.getD 220 undef, xs.getD 221 undef, xs.getD 222 undef, xs.getD 223 undef, xs.getD 224 undef, xs.getD 225 undef, xs.getD 226 undef, xs.getD 227 undef, xs.getD 228 undef, xs.getD 229 undef, xs.getD 230 undef, xs.getD 231 undef, xs.getD 232 undef, xs.getD 233 undef, xs.getD 234 undef, xs.getD 235 undef, xs.getD 236 undef, xs.getD 237 undef, xs.getD 238 undef, xs.getD 239 undef, xs.getD 240 undef, xs.getD 241 undef, xs.getD 242 undef] := all_slots xs 243 h
set_option maxRecDepth 100000 in
theorem frame_of243 (a : Act) (hs : a.tmps.size = 243) (hd : a.defers = []) : ∃ f : Nat → Value, a = ⟨#[f 0, f 1, f 2, f 3, f 4, f 5, f 6, f 7, f 8, f 9, f 10, f 11, f 12, f 13, f 14, f 15, f 16, f 17, f 18, f 19, f 20, f 21, f 22, f 23, f 24, f 25, f 26, f 27, f 28, f 29, f 30, f 31, f 32, f 33, f 34, f 35, f 36, f 37, f 38, f 39, f 40, f 41, f 42, f 43, f 44, f 45, f 46, f 47, f 48, f 49, f 50, f 51, f 52, f 53, f 54, f 55, f 56, f 57, f 58, f 59, f 60, f 61, f 62, f 63, f 64, f 65, f 66, f 67, f 68, f 69, f 70, f 71, f 72, f 73, f 74, f 75, f 76, f 77, f 78, f 79, f 80, f 81, f 82, f 83, f 84, f 85, f 86, f 87, f 88, f 89, f 90, f 91, f 92, f 93, f 94, f 95, f 96, f 97, f 98, f 99, f 100, f 101, f 102, f 103, f 104, f 105, f 106, f 107, f 108, f 109, f 110, f 111, f 112, f 113, f 114, f 115, f 116, f 117, f 118, f 119, f 120, f 121, f 122, f 123, f 124, f 125, f 126, f 127, f 128, f 129, f 130, f 131, f 132, f 133, f 134, f 135, f 136, f 137, f 138, f 139, f 140, f 141, f 142, f 143, f 144, f 145, f 146, f 147, f 148, f 149, f 150, f 151, f 152, f 153, f 154, f 155, f 156, f 157, f 158, f 159, f 160, f 161, f 162, f 163, f 164, f 165, f 166, f 167, f 168, f 169, f 170, f 171, f 172, f 173, f 174, f 175, f 176, f 177, f 178, f 179, f 180, f 181, f 182, f 183, f 184, f 185, f 186, f 187, f 188, f 189, f 190, f 191, f 192, f 193, f 194, f 195, f 196, f 197, f 198, f 199, f 200, f 201, f 202, f 203, f 204, f 205, f 206, f 207, f 208, f 209, f 210, f 211, f 212, f 213, f 214, f 215, f 216, f 217, f 218, f 219, f 220, f 221, f 222, f 223, f 224, f 225, f 226, f 227, f 228, f 229, f 230, f 231, f 232, f 233, f 234, f 235, f 236, f 237, f 238, f 239, f 240, f 241, f 242], []⟩ ∧ ∀ i, a.tmps.getD i undef = f i := by
  obtain ⟨xs, ds⟩ := a
  simp only at hs hd
  subst hd
  exact ⟨fun i => xs.getD i undef, by rw [← slots243 xs hs], fun _ => rfl⟩
end Go.Proofs.YtigicmnngppipaaGreatDoor
/- The loop of readFloat, place by place. No condition. -/
namespace PF
/-- The exponent that comes of a text. -/
def expo (E : RF × List UInt8) : Int := if E.1.man = 0 then 0 else (if E.1.dot then E.1.dp else (E.1.nd : Int)) + exV E.2 - E.1.nm
theorem readF_eq (l : List UInt8) : readF l = ((RF.run (body l) rf0).1.man, expo (RF.run (body l) rf0), (RF.run (body l) rf0).1.tr) := rfl
/-- At place k the state is st; E comes of it. -/
structure Rd (l : List UInt8) (E : RF × List UInt8) (st : RF) (k : Nat) (sv : Bool) : Prop where
  le : k ≤ l.length
  run : RF.run (l.drop k) st = E
  ok : st.Ok k
  okm : okM st.dot sv (l.drop k) = true
  saw : sv = true → st.saw = true
theorem rf0_okk (k : Nat) : rf0.Ok k := ⟨by simp [rf0], by simp [rf0], by simp [rf0], by simp [rf0], by simp [rf0], by simp [rf0], (fun _ h => by cases h), by simp [rf0]⟩
theorem Rd.start {l : List UInt8} {k : Nat} (hk : k ≤ l.length) (hm : okM false false (l.drop k) = true) : Rd l (RF.run (l.drop k) rf0) rf0 k false := ⟨hk, rfl, rf0_okk k, hm, fun h => by cases h⟩
theorem Rd.cons {l : List UInt8} {k : Nat} (hk : k < l.length) : l.drop k = l[k] :: l.drop (k + 1) := List.drop_eq_getElem_cons hk
theorem Rd.step {l : List UInt8} {E : RF × List UInt8} {st st' : RF} {k : Nat} {sv sv' : Bool} (h : Rd l E st k sv) (hk : k < l.length) (hs : st.step l[k] = some st') (hm : okM st'.dot sv' (l.drop (k + 1)) = true) (hv : sv' = true → st'.saw = true) : Rd l E st' (k + 1) sv' :=
  ⟨hk, by rw [← RF.run_some hs, ← Rd.cons hk]; exact h.run, h.ok.step hs, hm, hv⟩
theorem Rd.digit {l : List UInt8} {E : RF × List UInt8} {st : RF} {k : Nat} {sv : Bool} (h : Rd l E st k sv) (hk : k < l.length) (hd : isDig l[k] = true) :
    (l[k] = 48 ∧ st.nd = 0 → Rd l E { st with saw := true, dp := st.dp - 1 } (k + 1) true) ∧
    (¬(l[k] = 48 ∧ st.nd = 0) → st.nm < 19 → Rd l E { st with saw := true, ds := st.ds ++ [l[k].toNat - 48], man := st.man * 10 + (l[k].toNat - 48), nm := st.nm + 1 } (k + 1) true) ∧
    (¬(l[k] = 48 ∧ st.nd = 0) → ¬st.nm < 19 → Rd l E { st with saw := true, ds := st.ds ++ [l[k].toNat - 48], tr := st.tr || decide (l[k] ≠ 48) } (k + 1) true) := by
  have h46 : ¬l[k] = 46 := by intro e; rw [e] at hd; revert hd; decide
  have hm := h.okm
  rw [Rd.cons hk] at hm
  unfold okM at hm
  rw [if_pos hd] at hm
  refine ⟨fun hz => h.step hk ?_ hm fun _ => rfl, fun hz hn => h.step hk ?_ hm fun _ => rfl, fun hz hn => h.step hk ?_ hm fun _ => rfl⟩
  · unfold RF.step; rw [if_neg h46, if_pos hd, if_pos hz]
  · unfold RF.step; rw [if_neg h46, if_pos hd, if_neg hz, if_pos hn]
  · unfold RF.step; rw [if_neg h46, if_pos hd, if_neg hz, if_neg hn]
theorem Rd.point {l : List UInt8} {E : RF × List UInt8} {st : RF} {k : Nat} {sv : Bool} (h : Rd l E st k sv) (hk : k < l.length) (hd : l[k] = 46) : st.dot = false ∧ Rd l E { st with dot := true, dp := st.nd } (k + 1) true := by
  have hm := h.okm
  rw [Rd.cons hk] at hm
  unfold okM at hm
  rw [if_neg (by rw [hd]; decide), if_pos hd] at hm
  simp only [Bool.and_eq_true, Bool.not_eq_true'] at hm
  refine ⟨hm.1.1, h.step hk ?_ (okM_saw _ hm.2) fun _ => h.saw hm.1.2⟩
  unfold RF.step
  rw [if_pos hd, hm.1.1]
  rfl
theorem Rd.exp {l : List UInt8} {E : RF × List UInt8} {st : RF} {k : Nat} {sv : Bool} (h : Rd l E st k sv) (hk : k < l.length) (hd : isDig l[k] = false) (hp : ¬l[k] = 46) : (l[k] = 101 ∨ l[k] = 69) ∧ E = (st, l[k] :: l.drop (k + 1)) ∧ st.saw = true ∧ okX (l.drop (k + 1)) = true := by
  have hm := h.okm
  rw [Rd.cons hk] at hm
  unfold okM at hm
  rw [if_neg (by rw [hd]; decide), if_neg hp] at hm
  simp only [Bool.and_eq_true, Bool.or_eq_true, decide_eq_true_eq] at hm
  refine ⟨hm.1, ?_, h.saw hm.2.1, hm.2.2⟩
  rw [← h.run, Rd.cons hk, RF.run_none]
  unfold RF.step
  rw [if_neg hp, if_neg (by rw [hd]; decide)]
theorem Rd.fin {l : List UInt8} {E : RF × List UInt8} {st : RF} {sv : Bool} (h : Rd l E st l.length sv) : E = (st, []) ∧ st.saw = true := by
  have hm := h.okm
  have hr := h.run
  rw [List.drop_length] at hm hr
  exact ⟨hr.symm, h.saw (by simpa [okM] using hm)⟩
/-- Behind the e: perhaps a sign, then digits. -/
theorem okX_cases {r : List UInt8} (h : okX r = true) : ∃ c t, r = c :: t ∧ ((c = 43 ∧ okD t = true) ∨ (c = 45 ∧ okD t = true) ∨ (c ≠ 43 ∧ c ≠ 45 ∧ okD (c :: t) = true)) := by
  cases r with
  | nil => simp [okX] at h
  | cons c t =>
    refine ⟨c, t, rfl, ?_⟩
    have h : (if c = 43 ∨ c = 45 then okD t else okD (c :: t)) = true := h
    by_cases h1 : c = 43
    · rw [if_pos (.inl h1)] at h; exact .inl ⟨h1, h⟩
    · by_cases h2 : c = 45
      · rw [if_pos (.inr h2)] at h; exact .inr (.inl ⟨h2, h⟩)
      · rw [if_neg (by simp [h1, h2])] at h; exact .inr (.inr ⟨h1, h2, h⟩)
end PF
/- What ParseFloat answers, in plain Lean: the bits, and whether they are said to be too great. No condition. -/
namespace PF
theorem fbits_fin (neg : Bool) (a : Dec) : ((fbits neg a).2 = false → Fin (fbits neg a).1) ∧ ((fbits neg a).2 = true → Inf (fbits neg a).1) ∧ (fbits neg a).1 < 18446744073709551616 := by
  have hs : ∀ n : Bool, (if n then 2 ^ 63 else 0 : Nat) = 0 ∨ (if n then 2 ^ 63 else 0 : Nat) = 9223372036854775808 := by intro n; cases n <;> simp
  have h52 : (2 : Nat) ^ 52 = 4503599627370496 := by decide
  have h63 : (2 : Nat) ^ 63 = 9223372036854775808 := by decide
  have inf : ∀ n : Bool, Inf (2047 * 2 ^ 52 + (if n then 2 ^ 63 else 0)) ∧ 2047 * 2 ^ 52 + (if n then 2 ^ 63 else 0) < 18446744073709551616 := by
    intro n; cases n <;> unfold Inf <;> decide
  have zer : ∀ n : Bool, Fin (if n then 2 ^ 63 else 0) ∧ (if n then 2 ^ 63 else 0) < 18446744073709551616 := by
    intro n; cases n <;> unfold Fin <;> decide
  unfold fbits
  dsimp only
  split
  · exact ⟨fun _ => (zer neg).1, (fun h => by cases h), (zer neg).2⟩
  split
  · exact ⟨(fun h => by cases h), fun _ => (inf neg).1, (inf neg).2⟩
  split
  · exact ⟨fun _ => (zer neg).1, (fun h => by cases h), (zer neg).2⟩
  generalize fb2 5000 (fb1 5000 a 0).1 (fb1 5000 a 0).2 = q
  generalize (if q.2 - 1 < -1022 then (q.1.rshN (-1022 - (q.2 - 1)).toNat, (-1022 : Int)) else (q.1, q.2 - 1)) = b
  split
  · exact ⟨(fun h => by cases h), fun _ => (inf neg).1, (inf neg).2⟩
  generalize rint (b.1.lsh 53) = m
  split
  · exact ⟨(fun h => by cases h), fun _ => (inf neg).1, (inf neg).2⟩
  rename_i h1 h2
  have key : ∀ (c : Nat × Int), c.2 + 1023 < 2047 → Fin (c.1 % 2 ^ 52 + (((if c.1 / 2 ^ 52 % 2 = 0 then -1023 else c.2) + 1023).toNat % 2048) * 2 ^ 52 + (if neg then 2 ^ 63 else 0)) ∧ c.1 % 2 ^ 52 + (((if c.1 / 2 ^ 52 % 2 = 0 then -1023 else c.2) + 1023).toNat % 2048) * 2 ^ 52 + (if neg then 2 ^ 63 else 0) < 18446744073709551616 := by
    intro c hc
    have hm : c.1 % 2 ^ 52 < 2 ^ 52 := Nat.mod_lt _ (by decide)
    have hx : ((if c.1 / 2 ^ 52 % 2 = 0 then -1023 else c.2) + 1023).toNat ≤ 2046 := by split <;> omega
    generalize ((if c.1 / 2 ^ 52 % 2 = 0 then -1023 else c.2) + 1023).toNat = x at *
    generalize c.1 % 2 ^ 52 = y at *
    rw [Nat.mod_eq_of_lt (by omega : x < 2048), h52] at *
    unfold Fin
    rcases hs neg with h | h <;> rw [h] <;> constructor <;> omega
  have k := key (if m = 2 ^ 53 then (2 ^ 52, b.2 + 1) else (m, b.2)) (by split <;> simp only <;> omega)
  exact ⟨fun _ => k.1, (fun h => by cases h), k.2⟩
/-- Are two floats alike? -/
def eqF (x y : Nat) : Bool := Ieee.double.order x y == some .eq
/-- The decimal of a text. -/
def decOf (l : List UInt8) : Dec :=
  let (st, rest) := RF.run (body l) rf0
  ⟨st.ds, (if st.dot then st.dp else st.nd) + exV rest, false⟩
def atof (T : Int → Nat × Nat) (F : Nat → Nat) (l : List UInt8) : Nat × Bool :=
  let n := isNeg l
  let r := readF l
  if r.1 = 0 then (sgn n, false)
  else if 310 < r.2.1 then (sgn n + 9218868437227405312, true)
  else if r.2.1 < -345 then (sgn n, false)
  else match (if r.2.2 then none else exact64 F r.1 r.2.1 n) with
    | some f => (f, false)
    | none =>
      if r.2.2 then (if eqF (par64 T r.1 r.2.1 n).1 (par64 T (r.1 + 1) r.2.1 n).1 then par64 T r.1 r.2.1 n else fbits n (decOf l))
      else par64 T r.1 r.2.1 n
theorem sgn_fin (n : Bool) : Fin (sgn n) ∧ sgn n < 18446744073709551616 ∧ Inf (sgn n + 9218868437227405312) ∧ sgn n + 9218868437227405312 < 18446744073709551616 := by
  cases n <;> unfold Fin Inf <;> decide
theorem atof_fin {T : Int → Nat × Nat} (hT : ∀ p, (T p).1 < two64) {F : Nat → Nat} (hF : TabOk F) (l : List UInt8) : ((atof T F l).2 = false → Fin (atof T F l).1) ∧ ((atof T F l).2 = true → Inf (atof T F l).1) ∧ (atof T F l).1 < 18446744073709551616 := by
  have s := sgn_fin (isNeg l)
  unfold atof
  dsimp only
  split
  · exact ⟨fun _ => s.1, (fun h => by cases h), s.2.1⟩
  split
  · exact ⟨(fun h => by cases h), fun _ => s.2.2.1, s.2.2.2⟩
  split
  · exact ⟨fun _ => s.1, (fun h => by cases h), s.2.1⟩
  split
  · rename_i f hf
    split at hf
    · cases hf
    · obtain ⟨a, b⟩ := exact64_fin hF hf
      exact ⟨fun _ => a, (fun h => by cases h), b⟩
  · split
    · split
      · exact par64_fin T hT _ _ _
      · exact fbits_fin _ _
    · exact par64_fin T hT _ _ _
end PF
/- The bits of a decimal. Condition: the decimal's block, the tables. -/
namespace Go.Proofs.YtigicmnngppipaaGreatDoor
open Go.RowKit Go.Dcm
set_option maxRecDepth 100000
/-- The tables that the bits hang on. -/
structure FB (G B2 o2 B o : Nat) (S : Nat → ByteArray) (w : World) : Prop where
  m : w.cell? ⟨G, 0, none⟩ = some (.int .u64 52)
  x : w.cell? ⟨G, 1, none⟩ = some (.int .u64 11)
  bi : w.cell? ⟨G, 2, none⟩ = some (.int .i64 (-1023))
  p : w.cell? ⟨18, 0, none⟩ = some (.slice (some ⟨B2, o2, none⟩) 9 9)
  pt : ∀ i, i < 9 → w.cell? ⟨B2, o2 + i, none⟩ = some (.int .i64 (PF.powtab i : Int))
  ch : Cheat B o S w
theorem FB.below {G B2 o2 B o b : Nat} {S : Nat → ByteArray} {w w' : World} (h : FB G B2 o2 B o S w) (hb : Below b w w') (h16 : 18 < b) (hG : G < b) (hB2 : B2 < b) (hB : B < b) : FB G B2 o2 B o S w' :=
  ⟨(hb.cell (p := ⟨G, 0, none⟩) hG).trans h.m, (hb.cell (p := ⟨G, 1, none⟩) hG).trans h.x, (hb.cell (p := ⟨G, 2, none⟩) hG).trans h.bi, (hb.cell (p := ⟨18, 0, none⟩) (by omega : 18 < b)).trans h.p, fun i hi => (hb.cell (p := ⟨B2, _, none⟩) hB2).trans (h.pt i hi), h.ch.below hb (by omega) hB⟩
def Fr0 (b G : Nat) (a : Act) : Prop := a.defers = [] ∧ a.tmps.size = 243 ∧ a.tmps.getD 0 undef = .pointer (some ⟨b, 0, none⟩) ∧ a.tmps.getD 1 undef = .pointer (some ⟨G, 0, none⟩)
def JOut (b : Nat) (neg : Bool) (G B2 o2 B o : Nat) (S : Nat → ByteArray) (R : Nat × Bool) (w : World) (a : Act) (wr : World) : Prop :=
  Fr0 b G a ∧ ∃ (m X : Nat) (ov : Bool) (f : Nat → Nat) (nd dp : Int) (tr : Bool), a.tmps.getD 5 undef = .bool ov ∧ a.tmps.getD 6 undef = .int .i64 ((X : Int) - 1023) ∧ a.tmps.getD 7 undef = .int .u64 (m : Int) ∧ DAt 242 wr b f nd dp neg tr ∧ FB G B2 o2 B o S wr ∧ Below b w wr ∧ X ≤ 2047 ∧ m < 18446744073709551616 ∧ (m % 4503599627370496 + X * 4503599627370496 + PF.sgn neg, ov) = R
def JOvf (b : Nat) (neg : Bool) (G B2 o2 B o : Nat) (S : Nat → ByteArray) (R : Nat × Bool) (w : World) (a : Act) (wr : World) : Prop :=
  Fr0 b G a ∧ ∃ (f : Nat → Nat) (nd dp : Int) (tr : Bool), DAt 242 wr b f nd dp neg tr ∧ FB G B2 o2 B o S wr ∧ Below b w wr ∧ (2047 * 4503599627370496 + PF.sgn neg, true) = R
def JB (b : Nat) (neg : Bool) (G B2 o2 B o : Nat) (S : Nat → ByteArray) (R : Nat × Bool) (w : World) : Nat → Act → World → Prop
  | 0 => JOut b neg G B2 o2 B o S R w
  | 1 => JOvf b neg G B2 o2 B o S R w
  | _ => fun _ _ => False
theorem and2047 : ∀ s : Fin 2048, bits BinOp.and IntKind.i64 (s.val : Int) 2047 = (s.val : Int) := by decide +kernel
def RetB (b : Nat) (R : Nat × Bool) (w : World) (a : Act) (wr : World) : Prop :=
  a.defers = [] ∧ a.tmps.getD 4 undef = .int .u64 (R.1 : Int) ∧ a.tmps.getD 5 undef = .bool R.2 ∧ Below b w wr
set_option maxHeartbeats 1000000 in
theorem pass_out (b : Nat) (neg : Bool) (G B2 o2 B o : Nat) (S : Nat → ByteArray) (R : Nat × Bool) (w : World) (Q : Exit → Act → World → Prop) (hret : ∀ a' w', RetB b R w a' w' → Q .ret a' w') (rest : Code) (hr : (Tryz.f253.body.bind firstScope).bind (findLabel · 0) = some rest)
    (a : Act) (wr : World) (hJ : JOut b neg G B2 o2 B o S R w a wr) : rest.wp Tryz.prog Q a wr := by
  change some _ = some rest at hr
  cases hr
  obtain ⟨⟨hd0, hsz, g0, g1⟩, m, X, ov, f, nd, dp, tr, g5, g6, g7, hd, hfb, hbl, hX, hm, hR⟩ := hJ
  obtain ⟨fr, rfl, hf⟩ := frame_of243 a hsz hd0
  rw [hf] at g0 g1 g5 g6 g7
  rw [g0, g1, g5, g6, g7]
  have k1 := hfb.m
  have k2 := hfb.x
  have k3 := hfb.bi
  have cng := hd.cneg
  obtain ⟨lo, hlo⟩ : ∃ lo, m % 4503599627370496 = lo := ⟨_, rfl⟩
  have am : bits BinOp.and IntKind.u64 (m : Int) 4503599627370495 = (lo : Int) := by
    have h := bits_and_u64_nat m 4503599627370495 hm (by omega)
    rw [show (4503599627370495 : Nat) = 2 ^ 52 - 1 from rfl, Nat.and_two_pow_sub_one_eq_mod, show (2 : Nat) ^ 52 = 4503599627370496 from rfl, hlo] at h
    exact h
  have ax := and2047 ⟨X, by omega⟩
  simp only at ax
  obtain ⟨y, hy⟩ : ∃ y, X * 4503599627370496 = y := ⟨_, rfl⟩
  obtain ⟨z, hz⟩ : ∃ z, lo + y = z := ⟨_, rfl⟩
  have wy : IntKind.u64.wrap ((X : Int) * 4503599627370496) = (y : Int) := by rw [IntKind.wrap_u64]; omega
  have wx : IntKind.i64.wrap ((X : Int) - 1023 - -1023) = (X : Int) := by rw [IntWalk.i64_in _ (by omega)]; omega
  have oz : bits BinOp.or IntKind.u64 (lo : Int) (y : Int) = (z : Int) := by
    have h := bits_or_u64_nat lo y (by omega) (by omega)
    rw [h, ← hz]
    congr 1
    rw [Nat.or_comm, ← hy, Nat.mul_comm, Nat.add_comm lo, Nat.mul_comm, Nat.mul_comm X]
    exact (Nat.two_pow_add_eq_or_of_lt (i := 52) (by omega) X).symm
  have on : bits BinOp.or IntKind.u64 (z : Int) 9223372036854775808 = ((z + 9223372036854775808 : Nat) : Int) := by
    have h := bits_or_u64_nat z 9223372036854775808 (by omega) (by omega)
    refine (show bits BinOp.or IntKind.u64 (z : Int) 9223372036854775808 = ((z ||| 9223372036854775808 : Nat) : Int) from h).trans ?_
    congr 1
    rw [Nat.or_comm, Nat.add_comm]
    exact (Nat.two_pow_add_eq_or_of_lt (i := 63) (by omega) 1).symm
  have HR := Lib.hid hR
  have HRET := Lib.hid hret
  have HBL := Lib.hid hbl
  have z63 : z < 9223372036854775808 := by omega
  have X0 : (0 : Int) ≤ (X : Int) := by omega
  have HZ : Hid (m % 4503599627370496 + X * 4503599627370496 = z) := Lib.hid (by omega)
  clear hf hsz hd0 hR hret hbl hd hfb hlo hy hz hm
  cases neg with
  | false =>
    go_wp2_with fail
    go_quiet (fail)
    go_wp2_with fail
    refine HRET.out _ _ ⟨rfl, ?_, ?_, Go.below_drewN HBL.out _⟩
    · rw [← HR.out, HZ.out]; rfl
    · rw [← HR.out]; rfl
  | true =>
    go_wp2_with fail
    go_quiet (fail)
    go_wp2_with fail
    go_quiet (fail)
    go_wp2_with fail
    refine HRET.out _ _ ⟨rfl, ?_, ?_, by rw [World.drewN_drewN]; exact Go.below_drewN HBL.out _⟩
    · rw [← HR.out, HZ.out]; rfl
    · rw [← HR.out]; rfl
set_option maxHeartbeats 1000000 in
theorem pass_ovf (b : Nat) (neg : Bool) (G B2 o2 B o : Nat) (S : Nat → ByteArray) (R : Nat × Bool) (w : World) (Q : Exit → Act → World → Prop) (hret : ∀ a' w', RetB b R w a' w' → Q .ret a' w') (rest : Code) (hr : (Tryz.f253.body.bind firstScope).bind (findLabel · 1) = some rest)
    (a : Act) (wr : World) (hJ : JOvf b neg G B2 o2 B o S R w a wr) : rest.wp Tryz.prog Q a wr := by
  change some _ = some rest at hr
  cases hr
  obtain ⟨⟨hd0, hsz, g0, g1⟩, f, nd, dp, tr, hd, hfb, hbl, hR⟩ := hJ
  obtain ⟨fr, rfl, hf⟩ := frame_of243 a hsz hd0
  rw [hf] at g0 g1
  rw [g0, g1]
  have k1 := hfb.m
  have k2 := hfb.x
  have k3 := hfb.bi
  have HRET := Lib.hid hret
  have cng := hd.cneg
  have a1 : bits BinOp.and IntKind.u64 0 4503599627370495 = 0 := by kernel_rfl
  have a2 : bits BinOp.and IntKind.i64 2047 2047 = 2047 := by kernel_rfl
  have a3 : bits BinOp.or IntKind.u64 0 9218868437227405312 = 9218868437227405312 := by kernel_rfl
  have a4 : bits BinOp.or IntKind.u64 9218868437227405312 9223372036854775808 = 18442240474082181120 := by kernel_rfl
  have HD := Lib.hid hd
  have HFB := Lib.hid hfb
  have HBL := Lib.hid hbl
  have HR := Lib.hid hR
  clear hf hsz hd0 hR hret hbl hd hfb
  cases neg with
  | false =>
    go_wp2_with fail
    go_quiet (fail)
    go_wp2_with fail
    go_step3
    go_wp2_with fail
    go_quiet (fail)
    go_wp2_with fail
    refine HRET.out _ _ ⟨rfl, ?_, ?_, Go.below_drewN HBL.out _⟩
    · rw [← HR.out]; rfl
    · rw [← HR.out]; rfl
  | true =>
    go_wp2_with fail
    go_quiet (fail)
    go_wp2_with fail
    go_step3
    go_wp2_with fail
    go_quiet (fail)
    go_wp2_with fail
    go_quiet (fail)
    go_wp2_with fail
    refine HRET.out _ _ ⟨rfl, ?_, ?_, Go.below_drewN (Go.below_drewN HBL.out _) _⟩
    · rw [← HR.out]; rfl
    · rw [← HR.out]; rfl
end Go.Proofs.YtigicmnngppipaaGreatDoor
