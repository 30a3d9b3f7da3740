/- Several texts of this proof, laid together. Conditions: as each says. -/
import Derived.Test.YtagiddbfhlokcaaGreatDoorKAA
import Derived.Laws.IdiomStrings
import Derived.Lib.BufferRead
import Ieee.Arith
import Derived.Laws.FloatArith
import Derived.Test.YtagiddbfhlokcaaGreatDoorRows
import Derived.WalkKit
import Derived.ProofKit
import Derived.OpenShut
import Derived.Below
import Derived.WalkLawsBesides
import Derived.WalkSpells
import Derived.BigQuiet
import Derived.Lib.Hide
import Derived.Laws.Bits64b
import Derived.Laws.Shifts
import Derived.Laws.BitsAllLaws
import Derived.Laws.ShiftsVar
import Derived.Laws.ShiftsVarLaws
import Derived.Lib.SmallJoins
import Derived.Deep.RegionHeld
import Derived.Deep.QuietTactic
import Derived.Lib.BitFns
import Derived.Deep.Draws
import Derived.IntWalk
/- The other package's in and unquoted. Condition: the text's length. -/
namespace Go.Proofs.YtagiddbfhlokcaaGreatDoor
open Go.RowKit
set_option maxRecDepth 100000
theorem in51 (L : List (List UInt8)) (l : List UInt8) (g : Nat) (w : World) (hL : ∀ k (h : k < L.length), w.cell? ⟨g, k, none⟩ = some (.string (bs L[k]))) (hn : L.length ≤ 1000) :
    Calls Tryz.prog 51 #[.slice (some ⟨g, 0, none⟩) L.length L.length, .string (bs l)] w fun e w' => e = .returned (.bool (decide (l ∈ L))) ∧ w = w' := by
  obtain ⟨b, hb⟩ : ∃ b, decide (l ∈ L) = b := ⟨_, rfl⟩
  rw [hb]
  have HL := Lib.hid hL
  clear hL
  obtain ⟨n, hnn⟩ : ∃ n, L.length = n := ⟨_, rfl⟩
  have HN := Lib.hid hnn
  rw [hnn] at hn ⊢
  clear hnn
  go_enter Tryz.func51, Tryz.ntmps51
  go_wp2
  go_loopw [8] (fun v wr => ∃ k : Nat, v = .int .i64 (k : Int) ∧ k ≤ n ∧ decide (l ∈ L.drop k) = b ∧ w = wr) (fun v _ => match v with | .int _ k => n - k.toNat | _ => 0)
  case atStart => exact ⟨0, rfl, by omega, hb, rfl⟩
  case round =>
    obtain ⟨k, rfl, hk, hkk, rfl⟩ := hrel
    have HKK := Lib.hid hkk
    clear hkk
    by_cases hkn : k < n
    · have hkz : (k : Int) < (n : Int) := by omega
      have hkL : k < L.length := by rw [HN.out]; exact hkn
      have c0 := HL.out k hkL
      have hd := List.drop_eq_getElem_cons hkL
      obtain ⟨u, hu⟩ : ∃ u, L[k] = u := ⟨_, rfl⟩
      rw [hu] at c0 hd
      have HD := Lib.hid hd
      clear hd hu hkL
      by_cases hul : u = l
      · have ht : ((bs u).toList == (bs l).toList) = true := by rw [hul]; simp
        obtain rfl : true = b := by rw [← HKK.out, HD.out, hul]; simp
        clear hul
        go_wp2_with fail
        go_ret
        exact ⟨rfl, rfl⟩
      · have ht : ((bs u).toList == (bs l).toList) = false := by rw [bs_toList, bs_toList, beq_eq_false_iff_ne]; exact hul
        have HK2 : Hid (decide (l ∈ L.drop (k + 1)) = b) := Lib.hid (by rw [← HKK.out, HD.out]; simp [Ne.symm hul])
        clear hul
        go_wp2_with fail
        go_roundw
        case rel => exact ⟨k + 1, rfl, by omega, HK2.out, trivial⟩
        case measure => simp; omega
    · have hkz : ¬((k : Int) < (n : Int)) := by omega
      obtain rfl : false = b := by rw [← HKK.out, List.drop_of_length_le (by rw [HN.out]; omega)]; simp
      go_wp2_with fail
      go_ret
      exact ⟨rfl, rfl⟩
theorem info5c : (Tryz.prog.info? 5).map (fun i => (i.zero, i.size, i.bytes)) = some (some (.int .u8 0), 1, 1) := by kernel_rfl
theorem one_cell (w : World) (v : Value) : ∀ j u, [v][j]? = some u → (w.alloc (.cells #[v] 5 (0, 0))).cell? ((⟨w.heap.size, 0, none⟩ : Addr).add j) = some u := by
  intro j u hj
  match j, hj with
  | 0, hj => simp at hj; subst hj; simp [Addr.add]
theorem conv_bytes {w : World} {B : Nat} {v : Value} {l : List UInt8} (h : w.ownsRow B 5 1 v l.length (Lib.byteCells l)) : (convert 59 9 v).run Tryz.prog w = .ok (.string (bs l)) w := by
  rcases h.2 with ⟨rfl, h0⟩ | ⟨g, cap, cur, rfl, _, hg, _, _, _, htk⟩
  · obtain rfl := List.eq_nil_of_length_eq_zero h0
    exact Lib.run_convert_nil_bytes w 59 9 5 0 Tryz.underlying59 Tryz.underlying5 Tryz.underlying9
  · rw [Nat.mul_one] at htk
    exact run_convert_bytes_back w 59 9 5 ⟨g, 0, none⟩ cap l Tryz.underlying59 Tryz.underlying5 Tryz.underlying9 (Lib.bytes_of_row hg htk)
theorem unq_last : ∀ (r : List UInt8), PF.unq r ≠ none → ∃ m, r = m ++ [34]
  | [], h => absurd rfl h
  | [c], h => by
    unfold PF.unq at h
    split at h
    · rename_i hc; exact ⟨[], by rw [hc]; rfl⟩
    · exact absurd rfl h
  | c :: d :: r, h => by
    unfold PF.unq at h
    split at h
    · exact absurd rfl h
    · split at h
      · split at h
        · obtain ⟨m, rfl⟩ := unq_last r (by intro e; rw [e] at h; exact h rfl)
          exact ⟨c :: d :: m, rfl⟩
        · split at h
          · obtain ⟨m, rfl⟩ := unq_last r (by intro e; rw [e] at h; exact h rfl)
            exact ⟨c :: d :: m, rfl⟩
          · exact absurd rfl h
      · obtain ⟨m, hm⟩ := unq_last (d :: r) (by intro e; rw [e] at h; exact h rfl)
        exact ⟨c :: m, by rw [hm]; rfl⟩
/-- What stands between quotes, as the result. -/
def uqR (o : Option (List UInt8)) : Value := match o with
  | none => .tuple #[.string ⟨#[]⟩, .bool false]
  | some t => .tuple #[.string (bs t), .bool true]
def InUq (r m : List UInt8) (w : World) (v i : Value) (wr : World) : Prop :=
  ∃ (k : Nat) (l : List UInt8), i = .int .i64 (k : Int) ∧ k ≤ m.length ∧ PF.unq r = (PF.unq (m.drop k ++ [34])).map (l ++ ·) ∧ l.length ≤ k ∧ wr.ownsRow w.heap.size 5 1 v l.length (Lib.byteCells l) ∧ Below w.heap.size w wr
def up (n : Nat) : Value → Nat
  | .int _ k => n - k.toNat
  | _ => 0
theorem mid_text (a : UInt8) (m : List UInt8) (c : UInt8) : (bs (a :: (m ++ [c]))).extract 1 (m.length + 1) = bs m := by
  apply ByteArray.ext
  apply Array.toList_inj.1
  rw [Lib.extract_data, bs_list, bs_list]
  simp
set_option maxHeartbeats 4000000 in
theorem unquoted52 (r : List UInt8) (hr : r.length ≤ 140737488355327) (w : World) : Calls Tryz.prog 52 #[.string (bs (34 :: r))] w fun e w' => e = .returned (uqR (PF.unq r)) ∧ Below w.heap.size w w' := by
  obtain ⟨i0, hi, hz0, hz1, hz2⟩ := info_parts info5c
  obtain ⟨hsz0, hg0, hem0, h0i0, h1i0, htl0⟩ := bs_head (r := 34 :: r) rfl
  have hsl : (bs (34 :: r)).size = r.length + 1 := by rw [bs_size]; rfl
  have HSL := Lib.hid hsl
  rcases List.eq_nil_or_concat r with e | ⟨m, c, e⟩
  · have h2 : ((bs (34 :: r)).size : Int) < 2 := by rw [e] at hsl ⊢; simp at hsl; omega
    have HU : Hid (PF.unq r = none) := Lib.hid (by rw [e]; rfl)
    clear e hsl
    go_enter Tryz.func52, Tryz.ntmps52
    go_wp2_with fail
    go_ret2
    exact ⟨by rw [HU.out]; rfl, Below.refl _ _⟩
  · rw [List.concat_eq_append] at e
    have hml : r.length = m.length + 1 := by rw [e]; simp
    have h2 : ¬((bs (34 :: r)).size : Int) < 2 := by omega
    have hli : ((bs (34 :: r)).size : Int) - 1 = ((m.length + 1 : Nat) : Int) := by omega
    have hlt : m.length + 1 < (bs (34 :: r)).size := by omega
    have hlast : (bs (34 :: r))[m.length + 1] = c := by
      rw [bs_get]
      simp [e]
    have hmid := mid_text 34 m c
    rw [← e] at hmid
    have hltz : ((m.length + 1 : Nat) : Int) < ((bs (34 :: r)).size : Int) := by omega
    have hmlz : (1 : Int) ≤ ((m.length + 1 : Nat) : Int) := by omega
    have hlez : ((m.length + 1 : Nat) : Int) ≤ ((bs (34 :: r)).size : Int) := by omega
    obtain ⟨L, hL⟩ : ∃ L, bs (34 :: r) = L := ⟨_, rfl⟩
    obtain ⟨n, hn⟩ : ∃ n, m.length + 1 = n := ⟨_, rfl⟩
    have HE := Lib.hid e
    have HN := Lib.hid hn
    simp only [hL, hn] at *
    clear e hsl
    by_cases hc : c = 34
    · have HUM : Hid (r = m ++ [34]) := Lib.hid (by rw [HE.out, hc])
      have c34 : ((c.toNat : Int) == 34) = true := byte_eq c 34 (by decide) hc
      clear hc
      go_enter Tryz.func52, Tryz.ntmps52
      go_wp2_with fail
      clear hlast hmid hltz hmlz hlez hlt hli hg0 htl0 hem0 h0i0 h1i0 hsz0 c34
      go_loopw [4, 5] (fun v i wr => InUq r m w v i wr) (fun _ i _ => up m.length i)
      case atStart => exact ⟨0, [], rfl, by omega, by rw [HUM.out, List.drop_zero]; cases PF.unq (m ++ [34]) <;> rfl, by simp, World.ownsRow_nil _ _ _ _, Below.refl _ _⟩
      case round =>
        obtain ⟨k, l, rfl, hk, hun, hlk, hown, hb⟩ := hrel
        have HOWN := Lib.hid hown
        have HB := Lib.hid hb
        have HUN := Lib.hid hun
        clear hown hb hun
        rcases list_cases (m.drop k) with e | ⟨c, t, e⟩
        · have h1 := (at_nil hk e).1
          have HU2 : Hid (PF.unq r = some l) := Lib.hid (by rw [HUN.out, e]; simp [PF.unq])
          have HCV := Lib.hid (conv_bytes HOWN.out)
          have hcv := HCV.out
          clear e
          go_wp2_with fail
          go_ret2
          exact ⟨by rw [HU2.out]; rfl, HB.out⟩
        · obtain ⟨hlt, hg, hz, hd, hk1⟩ := at_cons e
          rw [e] at HUN
          by_cases h34 : c = 34
          · have c34 : ((c.toNat : Int) == 34) = true := byte_eq c 34 (by decide) h34
            have HU2 : Hid (PF.unq r = none) := Lib.hid (by
              rw [HUN.out, h34]
              cases t with
              | nil => rfl
              | cons d u => rw [List.cons_append, List.cons_append, unq_close]; rfl)
            clear e hd h34
            go_wp2_with fail
            go_ret2
            exact ⟨by rw [HU2.out]; rfl, HB.out⟩
          · have c34 : ((c.toNat : Int) == 34) = false := byte_ne c 34 (by decide) h34
            by_cases h10 : c = 10
            · have c10 : ((c.toNat : Int) == 10) = true := byte_eq c 10 (by decide) h10
              have HU2 : Hid (PF.unq r = none) := Lib.hid (by rw [HUN.out, h10, List.cons_append, unq_line]; rfl)
              clear e hd h34 h10
              go_wp2_with fail
              go_ret2
              exact ⟨by rw [HU2.out]; rfl, HB.out⟩
            · have c10 : ((c.toNat : Int) == 10) = false := byte_ne c 10 (by decide) h10
              by_cases h92 : c = 92
              · have c92 : ((c.toNat : Int) == 92) = true := byte_eq c 92 (by decide) h92
                rw [h92] at HUN
                rcases list_cases t with e2 | ⟨d, u, e2⟩
                · have hk1e : m.drop (k + 1) = [] := by rw [hd, e2]
                  have h2 := (at_nil hk1 hk1e).1
                  have h2z : ((bs m).size : Int) ≤ (k : Int) + 1 := by omega
                  have HU2 : Hid (PF.unq r = none) := Lib.hid (by rw [HUN.out, e2]; rfl)
                  clear e hd h34 h10 h92 e2 hk1e h2
                  go_wp2_with fail
                  go_ret2
                  exact ⟨by rw [HU2.out]; rfl, HB.out⟩
                · have hk1e : m.drop (k + 1) = d :: u := by rw [hd, e2]
                  obtain ⟨k1, hk1n⟩ : ∃ k1, k + 1 = k1 := ⟨_, rfl⟩
                  have hk1z : (k : Int) + 1 = (k1 : Int) := by omega
                  rw [hk1n] at hk1e
                  obtain ⟨hlt2, hg2, hz2', hd2, hk2⟩ := at_cons hk1e
                  rw [e2] at HUN
                  have hnot : ¬((bs m).size : Int) ≤ (k1 : Int) := by omega
                  have hlk1 : l.length ≤ k1 := by omega
                  have hkk1 : k < k1 := by omega
                  have hunq := unq_esc d (u ++ [34])
                  clear e hd h34 h10 h92 e2 hk1e hk1n
                  by_cases d34 : d = 34
                  · have HU3 : Hid (PF.unq r = ((PF.unq (m.drop (k1 + 1) ++ [34])).map (34 :: ·)).map (l ++ ·)) := Lib.hid (by rw [HUN.out, List.cons_append, List.cons_append, hunq, if_pos (.inl d34), hd2, d34])
                    clear hunq hd2 HUN
                    subst d34
                    go_wp2_with (at_builtin; refine wpList_append_own _ rfl _ _ 59 rfl w.heap.size 5 i0 (.int .u8 0) 1 1 Tryz.underlying59 hi hz0 hz1 hz2 rfl (by decide) _ _ _ rfl (HOWN.out.alloc _) ⟨wr.heap.size, 0, none⟩ 1 1 [.int .u8 34] rfl rfl (one_cell _ _) (by intro u hu; simp at hu; subst hu; rfl) (by unfold maxLen; omega) (by omega) (by have := HB.out.size; simp; omega) ?_)
                    intro v' w2 hown' hgrow _
                    have HOWN2 := Lib.hid hown'
                    have HB2 := Lib.hid ((HB.out.alloc (by have := HB.out.size; omega) _).grown hgrow (by have := HB.out.size; simp; omega) (fun j hj => (HOWN.out.lt j hj).1))
                    clear hown' hgrow
                    go_wp2_with fail
                    go_roundw
                    case rel => exact ⟨k1 + 1, l ++ [34], rfl, by omega, by rw [HU3.out, map_app], by simp; omega, by rw [byteCells_app]; simpa using HOWN2.out, HB2.out⟩
                    case measure => simp [up]; omega
                  · by_cases d92 : d = 92
                    · have HU3 : Hid (PF.unq r = ((PF.unq (m.drop (k1 + 1) ++ [34])).map (92 :: ·)).map (l ++ ·)) := Lib.hid (by rw [HUN.out, List.cons_append, List.cons_append, hunq, if_pos (.inr d92), hd2, d92])
                      clear d34 hunq hd2 HUN
                      subst d92
                      go_wp2_with (at_builtin; refine wpList_append_own _ rfl _ _ 59 rfl w.heap.size 5 i0 (.int .u8 0) 1 1 Tryz.underlying59 hi hz0 hz1 hz2 rfl (by decide) _ _ _ rfl (HOWN.out.alloc _) ⟨wr.heap.size, 0, none⟩ 1 1 [.int .u8 92] rfl rfl (one_cell _ _) (by intro u hu; simp at hu; subst hu; rfl) (by unfold maxLen; omega) (by omega) (by have := HB.out.size; simp; omega) ?_)
                      intro v' w2 hown' hgrow _
                      have HOWN2 := Lib.hid hown'
                      have HB2 := Lib.hid ((HB.out.alloc (by have := HB.out.size; omega) _).grown hgrow (by have := HB.out.size; simp; omega) (fun j hj => (HOWN.out.lt j hj).1))
                      clear hown' hgrow
                      go_wp2_with fail
                      go_roundw
                      case rel => exact ⟨k1 + 1, l ++ [92], rfl, by omega, by rw [HU3.out, map_app], by simp; omega, by rw [byteCells_app]; simpa using HOWN2.out, HB2.out⟩
                      case measure => simp [up]; omega
                    · by_cases d110 : d = 110
                      · have HU3 : Hid (PF.unq r = ((PF.unq (m.drop (k1 + 1) ++ [34])).map (10 :: ·)).map (l ++ ·)) := Lib.hid (by rw [HUN.out, List.cons_append, List.cons_append, hunq, if_neg (by simp [d34, d92]), if_pos d110, hd2])
                        clear d34 d92 hunq hd2 HUN
                        subst d110
                        go_wp2_with (at_builtin; refine wpList_append_own _ rfl _ _ 59 rfl w.heap.size 5 i0 (.int .u8 0) 1 1 Tryz.underlying59 hi hz0 hz1 hz2 rfl (by decide) _ _ _ rfl (HOWN.out.alloc _) ⟨wr.heap.size, 0, none⟩ 1 1 [.int .u8 10] rfl rfl (one_cell _ _) (by intro u hu; simp at hu; subst hu; rfl) (by unfold maxLen; omega) (by omega) (by have := HB.out.size; simp; omega) ?_)
                        intro v' w2 hown' hgrow _
                        have HOWN2 := Lib.hid hown'
                        have HB2 := Lib.hid ((HB.out.alloc (by have := HB.out.size; omega) _).grown hgrow (by have := HB.out.size; simp; omega) (fun j hj => (HOWN.out.lt j hj).1))
                        clear hown' hgrow
                        go_wp2_with fail
                        go_roundw
                        case rel => exact ⟨k1 + 1, l ++ [10], rfl, by omega, by rw [HU3.out, map_app], by simp; omega, by rw [byteCells_app]; simpa using HOWN2.out, HB2.out⟩
                        case measure => simp [up]; omega
                      · have f34 : ((d.toNat : Int) != 34) = true := by show (!((d.toNat : Int) == 34)) = true; rw [show ((d.toNat : Int) == 34) = false from byte_ne d 34 (by decide) d34]; rfl
                        have f92 : ((d.toNat : Int) != 92) = true := by show (!((d.toNat : Int) == 92)) = true; rw [show ((d.toNat : Int) == 92) = false from byte_ne d 92 (by decide) d92]; rfl
                        have f110 : ((d.toNat : Int) != 110) = true := by show (!((d.toNat : Int) == 110)) = true; rw [show ((d.toNat : Int) == 110) = false from byte_ne d 110 (by decide) d110]; rfl
                        have HU3 : Hid (PF.unq r = none) := Lib.hid (by rw [HUN.out, List.cons_append, List.cons_append, hunq, if_neg (by simp [d34, d92]), if_neg d110]; rfl)
                        clear d34 d92 d110 hunq hd2 HUN
                        go_wp2_with fail
                        go_ret2
                        exact ⟨by rw [HU3.out]; rfl, HB.out⟩
              · have c92 : ((c.toNat : Int) == 92) = false := byte_ne c 92 (by decide) h92
                have HU3 : Hid (PF.unq r = ((PF.unq (m.drop (k + 1) ++ [34])).map (c :: ·)).map (l ++ ·)) := Lib.hid (by rw [HUN.out, List.cons_append, unq_plain c _ h34 h10 h92, hd])
                clear e hd h34 h10 h92
                go_wp2_with (at_builtin; refine wpList_append_own _ rfl _ _ 59 rfl w.heap.size 5 i0 (.int .u8 0) 1 1 Tryz.underlying59 hi hz0 hz1 hz2 rfl (by decide) _ _ _ rfl (HOWN.out.alloc _) ⟨wr.heap.size, 0, none⟩ 1 1 [.int .u8 c.toNat] rfl rfl (one_cell _ _) (by intro u hu; simp at hu; subst hu; rfl) (by unfold maxLen; omega) (by omega) (by have := HB.out.size; simp; omega) ?_)
                intro v' w2 hown' hgrow _
                have HOWN2 := Lib.hid hown'
                have HB2 := Lib.hid ((HB.out.alloc (by have := HB.out.size; omega) _).grown hgrow (by have := HB.out.size; simp; omega) (fun j hj => (HOWN.out.lt j hj).1))
                clear hown' hgrow
                go_wp2_with fail
                go_roundw
                case rel => exact ⟨k + 1, l ++ [c], rfl, by omega, by rw [HU3.out, map_app], by simp; omega, by rw [byteCells_app]; simpa using HOWN2.out, HB2.out⟩
                case measure => simp [up]; omega
    · have HU : Hid (PF.unq r = none) := Lib.hid (by
        by_cases h : PF.unq r = none
        · exact h
        · obtain ⟨m2, e2⟩ := unq_last r h
          rw [HE.out] at e2
          have := congrArg List.getLast? e2
          simp at this
          exact absurd this hc)
      have c34 : ((c.toNat : Int) == 34) = false := byte_ne c 34 (by decide) hc
      clear hc
      go_enter Tryz.func52, Tryz.ntmps52
      go_wp2_with fail
      go_ret2
      exact ⟨by rw [HU.out]; rfl, Below.refl _ _⟩
end Go.Proofs.YtagiddbfhlokcaaGreatDoor
/- How great a float is after a product, a quotient, a conversion: the exponent's field, bounded. No condition. -/
namespace PF
open Ieee
theorem cut_le (neg : Bool) (n drop : Nat) (h : n < 2 ^ (53 + drop)) : Toward.even.cut neg n drop ≤ 2 ^ 53 := by
  unfold Toward.cut
  have hlow : n / (1 <<< min drop (n.log2 + 2)) < 2 ^ 53 := by
    rw [Nat.shiftLeft_eq, Nat.one_mul]
    by_cases hd : drop ≤ n.log2 + 2
    · rw [Nat.min_eq_left hd]
      rw [Nat.div_lt_iff_lt_mul (Nat.two_pow_pos _), ← Nat.pow_add]
      exact h
    · rw [Nat.min_eq_right (by omega)]
      have hn : n < 2 ^ (n.log2 + 2) := Nat.lt_of_lt_of_le (Nat.lt_log2_self (n := n)) (Nat.pow_le_pow_right (by omega) (by omega))
      rw [Nat.div_eq_of_lt hn]
      exact Nat.two_pow_pos _
  have hb : ∀ b : Bool, b.toNat ≤ 1 := by intro b; cases b <;> decide
  have := hb (decide (1 <<< min drop (n.log2 + 2) < 2 * (n % (1 <<< min drop (n.log2 + 2)))) || (1 <<< min drop (n.log2 + 2) == 2 * (n % (1 <<< min drop (n.log2 + 2))) && n / (1 <<< min drop (n.log2 + 2)) % 2 == 1))
  dsimp only
  omega
/-- The exponent's field is at most E. -/
def Low (x E : Nat) : Prop := x % 9223372036854775808 < (E + 1) * 4503599627370496
def Fin (x : Nat) : Prop := x % 9223372036854775808 < 9218868437227405312
theorem Low.fin {x E : Nat} (h : Low x E) (hE : E ≤ 2046) : Fin x := by
  unfold Low at h; unfold Fin; omega
theorem word_mod (neg : Bool) (r : Nat) (h : r < 9223372036854775808) : double.word neg r % 9223372036854775808 = r := by
  unfold Format.word Format.signWeight double
  split
  · show (9223372036854775808 + r) % 9223372036854775808 = r
    omega
  · exact Nat.mod_eq_of_lt h
theorem nearest_low (neg : Bool) (mag : Nat) (place : Int) (E : Nat) (hE : 2 ≤ E) (hE2 : E ≤ 2046) (h : mag ≠ 0 → place + mag.log2 + 1024 ≤ E) : Low (double.nearest neg mag place) E := by
  unfold Format.nearest
  split
  · unfold Low
    rw [word_mod _ _ (by omega)]
    omega
  · rename_i hm
    have h := h hm
    have hl : double.leastPlace = -1074 := by decide
    have hf : double.fractionBits = 52 := rfl
    have hb : double.binade = 4503599627370496 := rfl
    dsimp only
    rw [hl, hf, hb]
    obtain ⟨last, hlast⟩ : ∃ last : Int, max (place + mag.log2 - ((52 : Nat) : Int)) (-1074) = last := ⟨_, rfl⟩
    rw [hlast]
    have h1 : place + mag.log2 - 52 ≤ last := by omega
    have h2 : -1074 ≤ last := by omega
    have h3 : last + 1074 + 2 ≤ E := by omega
    have hk : Toward.even.cut neg (mag <<< (place - last).toNat) (last - place).toNat ≤ 2 ^ 53 := by
      refine cut_le _ _ _ ?_
      rw [Nat.shiftLeft_eq]
      have hm2 : mag < 2 ^ (mag.log2 + 1) := Nat.lt_log2_self
      calc mag * 2 ^ (place - last).toNat < 2 ^ (mag.log2 + 1) * 2 ^ (place - last).toNat := Nat.mul_lt_mul_of_pos_right hm2 (Nat.two_pow_pos _)
        _ = 2 ^ (mag.log2 + 1 + (place - last).toNat) := (Nat.pow_add _ _ _).symm
        _ ≤ 2 ^ (53 + (last - place).toNat) := Nat.pow_le_pow_right (by omega) (by omega)
    obtain ⟨K, hK⟩ : ∃ K, Toward.even.cut neg (mag <<< (place - last).toNat) (last - place).toNat = K := ⟨_, rfl⟩
    obtain ⟨R, hR⟩ : ∃ R, double.infRung = R := ⟨_, rfl⟩
    rw [hK] at hk ⊢
    rw [hR]
    clear hK hR hl hf hb
    unfold Low
    have hr : (last - -1074).toNat * 4503599627370496 + K ≤ E * 4503599627370496 := by omega
    rw [word_mod]
    · omega
    · have : min ((last - -1074).toNat * 4503599627370496 + K) R ≤ E * 4503599627370496 := Nat.le_trans (Nat.min_le_left _ _) hr
      omega
/-- What a word that is not great reads as. -/
theorem read_low {x E : Nat} (h : Low x E) (hE : E ≤ 2046) : ∃ s m i, double.read x = .number s m i ∧ m < 2 ^ 53 ∧ -1074 ≤ i ∧ i + 1075 ≤ max E 1 := by
  have hs : double.signWeight = 9223372036854775808 := rfl
  have hl : double.leastPlace = -1074 := by decide
  have hb : double.binade = 4503599627370496 := rfl
  have hi : double.infRung = 9218868437227405312 := rfl
  unfold Low at h
  unfold Format.read
  simp only [hs, hl, hb, hi]
  split
  · exact ⟨_, _, _, rfl, by omega, by omega, by omega⟩
  · rw [if_pos (by omega)]
    refine ⟨_, _, _, rfl, by omega, by omega, ?_⟩
    have : x % 9223372036854775808 / 4503599627370496 ≤ E := by omega
    omega
theorem log2_lt {m k : Nat} (h : m < 2 ^ k) (hm : m ≠ 0) : m.log2 < k := (Nat.log2_lt hm).2 h
theorem mul_low {x y A B E : Nat} (hx : Low x A) (hy : Low y B) (hA : A ≤ 2046) (hB : B ≤ 2046) (hE : 2 ≤ E) (hE2 : E ≤ 2046) (h : max A 1 + max B 1 ≤ E + 1021) : ∃ r, double.mul x y = some r ∧ Low r E := by
  obtain ⟨s, m, i, e1, m1, i1, i2⟩ := read_low hx hA
  obtain ⟨t, n, j, e2, m2, j1, j2⟩ := read_low hy hB
  refine ⟨_, by unfold Format.mul; rw [e1, e2]; rfl, nearest_low _ _ _ _ hE hE2 fun hmn => ?_⟩
  have hmn2 : m * n < 2 ^ 106 := by
    calc m * n < 2 ^ 53 * 2 ^ 53 := Nat.mul_lt_mul'' m1 m2
      _ = 2 ^ 106 := by decide
  have := log2_lt hmn2 hmn
  omega
theorem ofNat_low (neg : Bool) (n : Nat) (h : n < 2 ^ 64) : Low (double.nearest neg n 0) 1087 := by
  refine nearest_low _ _ _ _ (by omega) (by omega) fun hn => ?_
  have := log2_lt h hn
  omega
theorem neg_low {x E : Nat} (h : Low x E) : Low (x + 9223372036854775808) E ∧ Low (x % 9223372036854775808) E := by unfold Low at *; omega
end PF
/- A quotient's greatness; the short way of ParseFloat over a table of powers. No condition. -/
namespace PF
open Ieee
def High (x B : Nat) : Prop := B * 4503599627370496 ≤ x % 9223372036854775808
theorem read_high {x E B : Nat} (h : Low x E) (hE : E ≤ 2046) (hb : High x B) (hB : 1 ≤ B) : ∃ s m i, double.read x = .number s m i ∧ 4503599627370496 ≤ m ∧ (B : Int) ≤ i + 1075 := by
  have hs : double.signWeight = 9223372036854775808 := rfl
  have hl : double.leastPlace = -1074 := by decide
  have hbi : double.binade = 4503599627370496 := rfl
  have hi : double.infRung = 9218868437227405312 := rfl
  unfold Low at h
  unfold High at hb
  unfold Format.read
  simp only [hs, hl, hbi, hi]
  rw [if_neg (by omega), if_pos (by omega)]
  refine ⟨_, _, _, rfl, by omega, ?_⟩
  have : B ≤ x % 9223372036854775808 / 4503599627370496 := by omega
  omega
theorem quot_log {m n k : Nat} (hn : n ≠ 0) (b : Bool) (h : 2 * ((m <<< k) / n) + b.toNat ≠ 0) : (2 * ((m <<< k) / n) + b.toNat).log2 + n.log2 ≤ m.log2 + 1 + k ∨ m.log2 + 1 + k < n.log2 := by
  by_cases hc : m.log2 + 1 + k < n.log2
  · exact .inr hc
  left
  have hb : b.toNat ≤ 1 := by cases b <;> decide
  have h1 : m < 2 ^ (m.log2 + 1) := Nat.lt_log2_self
  have h2 : 2 ^ n.log2 ≤ n := Nat.log2_self_le hn
  have h3 : (m <<< k) / n < 2 ^ (m.log2 + 1 + k - n.log2) := by
    rw [Nat.shiftLeft_eq, Nat.div_lt_iff_lt_mul (by omega)]
    refine Nat.lt_of_lt_of_le (m := 2 ^ (m.log2 + 1) * 2 ^ k) (Nat.mul_lt_mul_of_pos_right h1 (Nat.two_pow_pos _)) ?_
    rw [← Nat.pow_add]
    refine Nat.le_trans ?_ (Nat.mul_le_mul_left _ h2)
    rw [← Nat.pow_add]
    exact Nat.pow_le_pow_right (by omega) (by omega)
  have h4 : 2 * ((m <<< k) / n) + b.toNat < 2 ^ (m.log2 + 1 + k - n.log2 + 1) := by
    rw [Nat.pow_succ]
    omega
  have := log2_lt h4 h
  omega
theorem div_low {x y A B C E : Nat} (hx : Low x A) (hy : Low y C) (hyb : High y B) (hA : A ≤ 2046) (hC : C ≤ 2046) (hB : 1 ≤ B) (hE : 2 ≤ E) (hE2 : E ≤ 2046) (h : max A 1 + 1025 ≤ E + B) : ∃ r, double.div x y = some r ∧ Low r E := by
  obtain ⟨s, m, i, e1, m1, i1, i2⟩ := read_low hx hA
  obtain ⟨t, n, j, e2, n1, j1⟩ := read_high hy hC hyb hB
  have hn0 : n ≠ 0 := by omega
  have e3 : (Datum.number s m i).quotient (double.fractionBits + 2) (.number t n j) = some (.number (s ^^ t) (2 * ((m <<< (double.fractionBits + 2 + n.log2 - m.log2)) / n) + ((m <<< (double.fractionBits + 2 + n.log2 - m.log2)) % n != 0).toNat) (i - j - ((double.fractionBits + 2 + n.log2 - m.log2 : Nat) : Int) - 1)) := by
    simp only [Datum.quotient]
    rw [if_neg hn0]
  refine ⟨_, by unfold Format.div; rw [e1, e2, e3]; rfl, nearest_low _ _ _ _ hE hE2 fun hmn => ?_⟩
  have hf : double.fractionBits = 52 := rfl
  rw [hf] at hmn ⊢
  have hl := quot_log hn0 _ hmn
  have hml : m.log2 ≤ 52 := by
    by_cases hm : m = 0
    · subst hm; decide
    · have := log2_lt m1 hm; omega
  have hnl : 52 ≤ n.log2 := (Nat.le_log2 hn0).2 (by omega)
  omega
def mulF (x y : Nat) : Nat := (double.mul x y).getD 0
def divF (x y : Nat) : Nat := (double.div x y).getD 0
end PF
/- The middle way of ParseFloat (scaling by a table of powers), in plain Lean, and what its answer is like. No condition. -/
namespace PF
def two64 : Nat := 18446744073709551616
def blen (n : Nat) : Nat := if n = 0 then 0 else n.log2 + 1
theorem blen_le {n : Nat} (h : n < 18446744073709551616) : blen n ≤ 64 := by
  unfold blen
  split
  · omega
  · rename_i hn
    have := (Nat.log2_lt hn).2 (show n < 2 ^ 64 by omega)
    omega
/-- log2 of a power of ten. -/
def lpow (p : Int) : Int := p * 108853 / 32768
def pE (d : Nat) (p : Int) : Int := min 1074 (53 - blen d - lpow p)
def pS (d : Nat) (p : Int) : Int := -(pE d p - (64 - blen d) + lpow p + 3)
theorem pS_ge (d : Nat) (p : Int) : 8 ≤ pS d p := by unfold pS pE; omega
/-- The scaled number, a table's cell at hand. -/
def usc (x : Nat) (c : Nat × Nat) (s : Nat) : Nat :=
  let hi := x * c.1 / two64
  let mid := x * c.1 % two64
  if hi / 2 ^ s * 2 ^ s = hi then
    let mid2 := x * c.2 / two64
    ((hi + two64 - (decide (mid < mid2)).toNat) % two64 / 2 ^ s) ||| (decide (1 < (mid + two64 - mid2) % two64)).toNat
  else (hi / 2 ^ s) ||| 1
def rnd (u : Nat) : Nat := (u + 1 + u / 4 % 2) / 4
/-- A mantissa and an exponent put together: the bits, is it too great? -/
def pack (m : Nat) (e : Int) : Nat × Bool :=
  if m / 4503599627370496 % 2 = 0 then (m, false)
  else if 972 ≤ e then ((m / 9223372036854775808 % 2) * 9223372036854775808 + 9218868437227405312, true)
  else (m - 4503599627370496 + (1075 + e).toNat * 4503599627370496, false)
def sgn (neg : Bool) : Nat := if neg then 9223372036854775808 else 0
/-- A number of at most 19 digits times a power of ten. -/
def par64 (T : Int → Nat × Nat) (d : Nat) (p : Int) (neg : Bool) : Nat × Bool :=
  if 64 ≤ pS d p then (sgn neg, false)
  else
    let u := usc (d * 2 ^ (64 - blen d) % two64) (T p) (pS d p).toNat
    let b := decide (36028797018963966 ≤ u)
    let v := if b then u / 2 ||| u % 2 else u
    pack (sgn neg + rnd v) (-(pE d p - (if b then 1 else 0)))
theorem or_lt {a b k : Nat} (ha : a < 2 ^ k) (hb : b < 2 ^ k) : a ||| b < 2 ^ k := Nat.or_lt_two_pow ha hb
theorem usc_lt (x s : Nat) (c : Nat × Nat) (hx : x < two64) (hc : c.1 < two64) (hs : 8 ≤ s) : usc x c s < 72057594037927936 := by
  have h56 : (72057594037927936 : Nat) = 2 ^ 56 := by decide
  have hdiv : ∀ y, y < two64 → y / 2 ^ s < 72057594037927936 := by
    intro y hy
    refine Nat.lt_of_le_of_lt (Nat.div_le_div_left (Nat.pow_le_pow_right (by omega) hs) (Nat.two_pow_pos _)) ?_
    unfold two64 at hy
    show y / 256 < _
    omega
  have hb : ∀ b : Bool, b.toNat < 2 ^ 56 := by intro b; cases b <;> decide
  have h64 : 0 < two64 := by decide
  unfold usc
  dsimp only
  split
  · rw [h56]
    exact or_lt (h56 ▸ hdiv _ (Nat.mod_lt _ h64)) (hb _)
  · rw [h56]
    refine or_lt (h56 ▸ hdiv _ ?_) (by decide)
    rw [Nat.div_lt_iff_lt_mul h64]
    exact Nat.mul_lt_mul'' hx hc
/-- The mantissa that comes of it, and that the answer is finite just if nothing is said. -/
def Inf (x : Nat) : Prop := x % 9223372036854775808 = 9218868437227405312
theorem pack_fin (neg : Bool) (r : Nat) (e : Int) (hr : r ≤ 9007199254740992) (he : -1074 ≤ e) : ((pack (sgn neg + r) e).2 = false → Fin (pack (sgn neg + r) e).1) ∧ ((pack (sgn neg + r) e).2 = true → Inf (pack (sgn neg + r) e).1) ∧ (pack (sgn neg + r) e).1 < 18446744073709551616 := by
  have hs : sgn neg = 0 ∨ sgn neg = 9223372036854775808 := by unfold sgn; split <;> simp
  unfold pack Fin Inf
  split
  · refine ⟨fun _ => ?_, fun h => (by cases h), ?_⟩
    · simp only; omega
    · simp only; omega
  · split
    · refine ⟨fun h => (by cases h), fun _ => ?_, ?_⟩
      · simp only; omega
      · simp only; omega
    · refine ⟨fun _ => ?_, fun h => (by cases h), ?_⟩
      · simp only; omega
      · simp only; omega
theorem half_or (u : Nat) (h : u < 72057594037927936) : u / 2 ||| u % 2 < 36028797018963968 := by
  have e : (36028797018963968 : Nat) = 2 ^ 55 := by decide
  rw [e]
  exact or_lt (by omega) (by omega)
theorem par64_fin (T : Int → Nat × Nat) (hT : ∀ p, (T p).1 < two64) (d : Nat) (p : Int) (neg : Bool) : ((par64 T d p neg).2 = false → Fin (par64 T d p neg).1) ∧ ((par64 T d p neg).2 = true → Inf (par64 T d p neg).1) ∧ (par64 T d p neg).1 < 18446744073709551616 := by
  unfold par64
  by_cases h : 64 ≤ pS d p
  · rw [if_pos h]
    refine ⟨fun _ => ?_, fun h => (by cases h), ?_⟩
    · unfold Fin sgn; simp only; split <;> omega
    · unfold sgn; simp only; split <;> omega
  · rw [if_neg h]
    have hu := usc_lt (d * 2 ^ (64 - blen d) % two64) (pS d p).toNat (T p) (Nat.mod_lt _ (by decide)) (hT p) (by have := pS_ge d p; omega)
    obtain ⟨u, hu'⟩ : ∃ u, usc (d * 2 ^ (64 - blen d) % two64) (T p) (pS d p).toNat = u := ⟨_, rfl⟩
    have he : -1074 ≤ -(pE d p) := by unfold pE; omega
    rw [hu'] at hu
    dsimp only
    rw [hu']
    have ho := half_or u hu
    by_cases hb : 36028797018963966 ≤ u
    · simp only [hb, decide_true, if_true]
      refine pack_fin neg _ _ ?_ (by omega)
      unfold rnd
      omega
    · simp only [hb, decide_false, if_false, Bool.false_eq_true]
      refine pack_fin neg _ _ ?_ (by omega)
      unfold rnd
      omega
end PF
/- The short way of ParseFloat: a product or a quotient of floats. No condition. -/
namespace PF
open Ieee
/-- The table of the 23 powers of ten, as floats. -/
def TabOk (T : Nat → Nat) : Prop := ∀ k, k ≤ 22 → Low (T k) 1096 ∧ High (T k) 1023 ∧ T k < 9223372036854775808
def e15 : Nat := 4831355200913801216
def ne15 : Nat := 14054727237768577024
def flt (man : Nat) (neg : Bool) : Nat := Go.floatOfInt .f64 (man : Int) + sgn neg
def gtF (x y : Nat) : Bool := double.order x y == some .gt
def ltF (x y : Nat) : Bool := double.order x y == some .lt
/-- With an exponent above nought. -/
def exU (T : Nat → Nat) (f : Nat) (p : Nat) : Option Nat :=
  let g := if 22 < p then mulF f (T (p - 22)) else f
  if gtF g e15 || ltF g ne15 then none else some (mulF g (T (min p 22)))
def exact64 (T : Nat → Nat) (man : Nat) (p : Int) (neg : Bool) : Option Nat :=
  if man / 4503599627370496 ≠ 0 then none
  else if p = 0 then some (flt man neg)
  else if 0 < p ∧ p ≤ 37 then exU T (flt man neg) p.toNat
  else if p < 0 ∧ -22 ≤ p then some (divF (flt man neg) (T (-p).toNat))
  else none
theorem ofInt_eq (man : Nat) : Go.floatOfInt .f64 (man : Int) = double.nearest false man 0 := by
  have : decide ((man : Int) < 0) = false := by simp
  show double.nearest (decide ((man : Int) < 0)) (man : Int).natAbs 0 = _
  rw [this, Int.natAbs_natCast]
theorem word_false_lt (r : Nat) (h : r ≤ 9218868437227405312) : double.word false r < 9223372036854775808 := by
  unfold Format.word
  simp only [Bool.false_eq_true, if_false]
  omega
theorem nearest_pos (mag : Nat) (place : Int) : double.nearest false mag place < 9223372036854775808 := by
  unfold Format.nearest
  split
  · exact word_false_lt _ (by omega)
  · have e : double.infRung = 9218868437227405312 := rfl
    dsimp only
    refine word_false_lt _ (Nat.le_trans (Nat.min_le_right _ _) (Nat.le_of_eq e))
theorem flt_low (man : Nat) (neg : Bool) (h : man < 18446744073709551616) : Low (flt man neg) 1087 ∧ flt man neg < 18446744073709551616 := by
  have h1 := ofNat_low false man h
  have h2 := nearest_pos man 0
  unfold flt
  rw [ofInt_eq]
  unfold sgn
  split
  · exact ⟨(neg_low h1).1, by omega⟩
  · exact ⟨h1, by omega⟩
theorem mulF_eq {x y A B E : Nat} (hx : Low x A) (hy : Low y B) (hA : A ≤ 2046) (hB : B ≤ 2046) (hE : 2 ≤ E) (hE2 : E ≤ 2046) (h : max A 1 + max B 1 ≤ E + 1021) : double.mul x y = some (mulF x y) ∧ Low (mulF x y) E ∧ mulF x y < 18446744073709551616 := by
  obtain ⟨r, h1, h2⟩ := mul_low hx hy hA hB hE hE2 h
  have h3 := double.mul_lt h1
  unfold mulF
  rw [h1]
  exact ⟨rfl, h2, h3⟩
theorem divF_eq {x y A B C E : Nat} (hx : Low x A) (hy : Low y C) (hyb : High y B) (hA : A ≤ 2046) (hC : C ≤ 2046) (hB : 1 ≤ B) (hE : 2 ≤ E) (hE2 : E ≤ 2046) (h : max A 1 + 1025 ≤ E + B) : double.div x y = some (divF x y) ∧ Low (divF x y) E ∧ divF x y < 18446744073709551616 := by
  obtain ⟨r, h1, h2⟩ := div_low hx hy hyb hA hC hB hE hE2 h
  have h3 := double.div_lt h1
  unfold divF
  rw [h1]
  exact ⟨rfl, h2, h3⟩
theorem exU_fin {T : Nat → Nat} (hT : TabOk T) {f p : Nat} (hf : Low f 1087) (hp : p ≤ 37) {r : Nat} (h : exU T f p = some r) : Fin r ∧ r < 18446744073709551616 := by
  unfold exU at h
  by_cases hp2 : 22 < p
  · have t1 := hT (p - 22) (by omega)
    have t2 := hT (min p 22) (by omega)
    have m1 := mulF_eq (E := 1170) hf t1.1 (by omega) (by omega) (by omega) (by omega) (by omega)
    have m2 := mulF_eq (E := 1400) m1.2.1 t2.1 (by omega) (by omega) (by omega) (by omega) (by omega)
    simp only [hp2, if_true] at h
    split at h
    · cases h
    · cases h
      exact ⟨m2.2.1.fin (by omega), m2.2.2⟩
  · have t2 := hT (min p 22) (by omega)
    have m2 := mulF_eq (E := 1400) hf t2.1 (by omega) (by omega) (by omega) (by omega) (by omega)
    simp only [hp2, if_false] at h
    split at h
    · cases h
    · cases h
      exact ⟨m2.2.1.fin (by omega), m2.2.2⟩
theorem exact64_fin {T : Nat → Nat} (hT : TabOk T) {man : Nat} {p : Int} {neg : Bool} {r : Nat} (h : exact64 T man p neg = some r) : Fin r ∧ r < 18446744073709551616 := by
  unfold exact64 at h
  split at h
  · cases h
  · rename_i hm
    have hf := flt_low man neg (by omega)
    split at h
    · cases h
      exact ⟨hf.1.fin (by omega), hf.2⟩
    · split at h
      · exact exU_fin hT hf.1 (by omega) h
      · split at h
        · cases h
          have t := hT (-p).toNat (by omega)
          have m := divF_eq (E := 1500) hf.1 t.1 t.2.1 (by omega) (by omega) (by omega) (by omega) (by omega) (by omega)
          exact ⟨m.2.1.fin (by omega), m.2.2⟩
        · cases h
end PF
/- Bits of words. No condition. -/
namespace PF
theorem and_pow (m k : Nat) : m &&& 2 ^ k = m / 2 ^ k % 2 * 2 ^ k := by
  apply Nat.eq_of_testBit_eq
  intro i
  rw [Nat.testBit_and, Nat.testBit_two_pow, Nat.testBit_mul_two_pow]
  by_cases h : k = i
  · subst h
    simp only [decide_true, Bool.and_true, Nat.le_refl, Bool.true_and, Nat.sub_self, Nat.testBit_zero, Nat.mod_mod]
    rw [← Nat.shiftRight_eq_div_pow]
    simp [Nat.testBit, Nat.one_and_eq_mod_two]
  · simp only [h, decide_false, Bool.and_false]
    by_cases h2 : k ≤ i
    · have : (m / 2 ^ k % 2).testBit (i - k) = false := Nat.testBit_lt_two_pow (Nat.lt_of_lt_of_le (Nat.mod_lt _ (by omega)) (by
        have : 2 ^ 1 ≤ 2 ^ (i - k) := Nat.pow_le_pow_right (by omega) (by omega)
        simpa using this))
      rw [this, Bool.and_false]
    · simp [h2]
theorem andNot52 (neg : Bool) (lo : Nat) (h : lo < 4503599627370496) : (sgn neg + (4503599627370496 + lo)) &&& 18442240474082181119 = sgn neg + lo := by
  have hl : lo < 2 ^ 52 := h
  have e0 : 4503599627370496 + lo = 4503599627370496 ||| lo := (Nat.two_pow_add_eq_or_of_lt hl 1)
  have hx : 4503599627370496 + lo < 2 ^ 63 := by have : (2 : Nat) ^ 63 = 9223372036854775808 := by decide
                                                 omega
  have hy : lo < 2 ^ 63 := by have : (2 : Nat) ^ 63 = 9223372036854775808 := by decide
                              omega
  have c1 : lo &&& 18442240474082181119 = lo := by
    have e1 : lo &&& 4503599627370495 = lo := by
      have := Nat.and_two_pow_sub_one_eq_mod lo 52
      rw [Nat.mod_eq_of_lt hl] at this
      exact this
    have e2 : 4503599627370495 &&& 18442240474082181119 = 4503599627370495 := by decide
    conv => lhs; rw [← e1]
    rw [Nat.and_assoc, e2, e1]
  have e3 : ∀ z, z < 2 ^ 63 → sgn neg + z = sgn neg ||| z := by
    intro z hz
    cases neg
    · simp [sgn]
    · exact Nat.two_pow_add_eq_or_of_lt hz 1
  rw [e3 _ hx, e0, e3 _ hy, Nat.and_or_distrib_right, Nat.and_or_distrib_right, c1]
  have e4 : sgn neg &&& 18442240474082181119 = sgn neg := by cases neg <;> decide
  have e5 : 4503599627370496 &&& 18442240474082181119 = 0 := by decide
  rw [e4, e5, Nat.zero_or]
theorem or_exp (neg : Bool) (lo x : Nat) (h : lo < 4503599627370496) (hx : x < 2048) : (sgn neg + lo) ||| x * 4503599627370496 = sgn neg + lo + x * 4503599627370496 := by
  have hl : lo < 2 ^ 52 := h
  have hp : (2 : Nat) ^ 63 = 9223372036854775808 := by decide
  have e3 : ∀ z, z < 2 ^ 63 → sgn neg + z = sgn neg ||| z := by
    intro z hz
    cases neg
    · simp [sgn]
    · exact Nat.two_pow_add_eq_or_of_lt hz 1
  rw [Nat.add_assoc, e3 lo (by omega), e3 (lo + x * 4503599627370496) (by omega), Nat.or_assoc]
  congr 1
  rw [Nat.or_comm, Nat.add_comm lo]
  have := Nat.two_pow_add_eq_or_of_lt hl x
  rw [Nat.mul_comm x]
  exact this.symm
theorem or_sgn (neg : Bool) (z : Nat) (h : z < 9223372036854775808) : sgn neg ||| z = sgn neg + z := by
  cases neg
  · simp [sgn]
  · exact (Nat.two_pow_add_eq_or_of_lt (i := 63) h 1).symm
theorem or_mod2 (u : Nat) : u ||| u % 2 = u := by
  rw [← Nat.and_one_is_mod]
  apply Nat.eq_of_testBit_eq
  intro i
  rw [Nat.testBit_or, Nat.testBit_and]
  cases u.testBit i <;> simp
end PF
/- The small functions of ParseFloat's middle way. No condition. -/
namespace Go.Proofs.YtagiddbfhlokcaaGreatDoor
open Go.RowKit
set_option maxRecDepth 100000
theorem lpow_walk (p : Int) (hp : -1000 ≤ p) (hp2 : p ≤ 1000) (w : World) : Calls Tryz.prog 240 #[.int .i64 p] w fun e w' => e = .returned (.int .i64 (PF.lpow p)) ∧ w = w' := by
  unfold PF.lpow
  go_enter Tryz.func240, Tryz.ntmps240
  go_wp2
  go_ret
  exact ⟨rfl, rfl⟩
theorem unmin53 (w : World) : Calls Tryz.prog 243 #[.int .u64 9007199254740992] w fun e w' => e = .returned (.int .u64 36028797018963966) ∧ w = w' := by
  go_enter Tryz.func243, Tryz.ntmps243
  go_wp2
  go_ret
  exact ⟨rfl, rfl⟩
theorem bool160 (b : Bool) (w : World) : Calls Tryz.prog 160 #[.bool b] w fun e w' => e = .returned (.int .i64 (b.toNat : Int)) ∧ w = w' := by
  cases b <;>
  · go_enter Tryz.func160, Tryz.ntmps160
    go_wp2
    go_ret
    exact ⟨rfl, rfl⟩
theorem bool213 (b : Bool) (w : World) : Calls Tryz.prog 213 #[.bool b] w fun e w' => e = .returned (.int .u64 (b.toNat : Int)) ∧ w = w' := by
  cases b <;>
  · go_enter Tryz.func213, Tryz.ntmps213
    go_wp2
    go_ret
    exact ⟨rfl, rfl⟩
theorem round245 (u : Nat) (hu : u < 72057594037927936) (w : World) : Calls Tryz.prog 245 #[.int .u64 (u : Int)] w fun e w' => e = .returned (.int .u64 (PF.rnd u : Int)) ∧ w = w' := by
  have b1 : ∀ n : Nat, n < 18446744073709551616 → bits BinOp.and IntKind.u64 (n : Int) 1 = ((n % 2 : Nat) : Int) := by
    intro n hn
    have h := bits_and_u64_nat n 1 hn (by omega)
    rw [Nat.and_one_is_mod] at h
    exact h
  have e1 : (u : Int) / 4 = ((u / 4 : Nat) : Int) := by omega
  have b2 := b1 (u / 4) (by omega)
  rw [← e1] at b2
  clear b1 e1
  unfold PF.rnd
  go_enter Tryz.func245, Tryz.ntmps245
  go_wp2
  go_ret
  refine ⟨?_, rfl⟩
  congr 2
end Go.Proofs.YtagiddbfhlokcaaGreatDoor
/- A mantissa and an exponent put together; the scaling. No condition. -/
namespace Go.Proofs.YtagiddbfhlokcaaGreatDoor
open Go.RowKit
set_option maxRecDepth 100000
theorem and52 (m : Nat) (hm : m < 18446744073709551616) : bits BinOp.and IntKind.u64 (m : Int) 4503599627370496 = ((m / 4503599627370496 % 2 * 4503599627370496 : Nat) : Int) := by
  have h := bits_and_u64_nat m 4503599627370496 hm (by omega)
  rw [PF.and_pow m 52] at h
  exact h
theorem and63 (m : Nat) (hm : m < 18446744073709551616) : bits BinOp.and IntKind.u64 (m : Int) 9223372036854775808 = ((m / 9223372036854775808 % 2 * 9223372036854775808 : Nat) : Int) := by
  have h := bits_and_u64_nat m 9223372036854775808 hm (by omega)
  rw [PF.and_pow m 63] at h
  exact h
/-- An error of the inner package: its number. -/
def errV (b : Bool) : Value := if b then .iface 189 (.int .i64 1) else .nilIface
theorem run214 (n : Int) (w : World) : (callFunc 214 #[.int .u64 n]).run Tryz.prog w = .ok (.value (.float .f64 n.toNat)) w := by
  rw [run_callFunc_extern Tryz.func214 (by kernel_rfl) (by kernel_rfl) (by kernel_rfl) (e := Extern.MathFloatBits.float64frombits) (by kernel_rfl)]
  rfl
theorem pack247 (neg : Bool) (r : Nat) (hr : r ≤ 9007199254740992) (e : Int) (h1 : -1074 ≤ e) (h2 : e ≤ 5000) (w : World) :
    Calls Tryz.prog 247 #[.int .u64 ((PF.sgn neg + r : Nat) : Int), .int .i64 e] w fun x w' => x = .returned (.tuple #[.float .f64 (PF.pack (PF.sgn neg + r) e).1, errV (PF.pack (PF.sgn neg + r) e).2]) ∧ w = w' := by
  have hs : PF.sgn neg = 0 ∨ PF.sgn neg = 9223372036854775808 := by cases neg <;> simp [PF.sgn]
  have h214 := run214
  have hm := and52 (PF.sgn neg + r) (by omega)
  by_cases hc : (PF.sgn neg + r) / 4503599627370496 % 2 = 0
  · have hp : PF.pack (PF.sgn neg + r) e = (PF.sgn neg + r, false) := by unfold PF.pack; rw [if_pos hc]
    rw [hp]
    rw [hc] at hm
    obtain ⟨m, hmm⟩ : ∃ m, PF.sgn neg + r = m := ⟨_, rfl⟩
    rw [hmm] at hm ⊢
    clear hp hc hs hmm
    unfold errV
    go_enter Tryz.func247, Tryz.ntmps247
    go_wp2_with fail
    go_ret2
    exact ⟨rfl, rfl⟩
  · have hc1 : (PF.sgn neg + r) / 4503599627370496 % 2 = 1 := by omega
    rw [hc1] at hm
    by_cases he : 972 ≤ e
    · have hp : PF.pack (PF.sgn neg + r) e = ((PF.sgn neg + r) / 9223372036854775808 % 2 * 9223372036854775808 + 9218868437227405312, true) := by unfold PF.pack; rw [if_neg hc, if_pos he]
      rw [hp]
      have h63 := and63 (PF.sgn neg + r) (by omega)
      have hor : bits BinOp.or IntKind.u64 (((PF.sgn neg + r) / 9223372036854775808 % 2 * 9223372036854775808 : Nat) : Int) 9218868437227405312 = (((PF.sgn neg + r) / 9223372036854775808 % 2 * 9223372036854775808 + 9218868437227405312 : Nat) : Int) := by
        have e1 : (PF.sgn neg + r) / 9223372036854775808 % 2 * 9223372036854775808 = PF.sgn neg := by omega
        rw [e1]
        have := bits_or_u64_nat (PF.sgn neg) 9218868437227405312 (by omega) (by omega)
        rw [PF.or_sgn neg _ (by omega)] at this
        exact this
      obtain ⟨q, hq⟩ : ∃ q, (PF.sgn neg + r) / 9223372036854775808 % 2 * 9223372036854775808 = q := ⟨_, rfl⟩
      rw [hq] at h63 hor ⊢
      obtain ⟨m, hmm⟩ : ∃ m, PF.sgn neg + r = m := ⟨_, rfl⟩
      rw [hmm] at hm h63 ⊢
      obtain ⟨z, hz⟩ : ∃ z, q + 9218868437227405312 = z := ⟨_, rfl⟩
      rw [hz] at hor ⊢
      clear hp hc hc1 hs hmm hq hz
      unfold errV
      go_enter Tryz.func247, Tryz.ntmps247
      go_wp2_with fail
      go_ret2
      exact ⟨rfl, rfl⟩
    · have hp : PF.pack (PF.sgn neg + r) e = (PF.sgn neg + r - 4503599627370496 + (1075 + e).toNat * 4503599627370496, false) := by unfold PF.pack; rw [if_neg hc, if_neg he]
      rw [hp]
      obtain ⟨lo, rfl, hlo⟩ : ∃ lo, r = 4503599627370496 + lo ∧ lo < 4503599627370496 := ⟨r - 4503599627370496, by omega, by omega⟩
      have ha : bits BinOp.andNot IntKind.u64 ((PF.sgn neg + (4503599627370496 + lo) : Nat) : Int) 4503599627370496 = ((PF.sgn neg + lo : Nat) : Int) := by
        have h := u64_andNot_nat (PF.sgn neg + (4503599627370496 + lo)) 4503599627370496 (by omega) (by omega)
        have e : (18446744073709551615 - 4503599627370496 : Nat) = 18442240474082181119 := by decide
        rw [e, PF.andNot52 neg lo hlo] at h
        exact h
      obtain ⟨x, hx⟩ : ∃ x, (1075 + e).toNat = x := ⟨_, rfl⟩
      have ho : bits BinOp.or IntKind.u64 ((PF.sgn neg + lo : Nat) : Int) ((x * 4503599627370496 : Nat) : Int) = ((PF.sgn neg + (4503599627370496 + lo) - 4503599627370496 + x * 4503599627370496 : Nat) : Int) := by
        have := bits_or_u64_nat (PF.sgn neg + lo) (x * 4503599627370496) (by omega) (by omega)
        rw [PF.or_exp neg lo x hlo (by omega)] at this
        have e : PF.sgn neg + lo + x * 4503599627370496 = PF.sgn neg + (4503599627370496 + lo) - 4503599627370496 + x * 4503599627370496 := by omega
        exact this.trans (congrArg (fun n : Nat => (n : Int)) e)
      have hw : (1075 + e) * 4503599627370496 = ((x * 4503599627370496 : Nat) : Int) := by omega
      rw [hx]
      obtain ⟨z, hz⟩ : ∃ z, PF.sgn neg + (4503599627370496 + lo) - 4503599627370496 + x * 4503599627370496 = z := ⟨_, rfl⟩
      obtain ⟨y, hy⟩ : ∃ y, x * 4503599627370496 = y := ⟨_, rfl⟩
      obtain ⟨a, ha'⟩ : ∃ a, PF.sgn neg + lo = a := ⟨_, rfl⟩
      obtain ⟨m, hmm⟩ : ∃ m, PF.sgn neg + (4503599627370496 + lo) = m := ⟨_, rfl⟩
      rw [hz] at ho ⊢
      rw [hy] at ho hw
      rw [ha'] at ha ho
      rw [hmm] at hm ha ⊢
      have hy2 : y < 18446744073709551616 := by omega
      clear hp hc1 hc hr hs hz ha' hmm hy hx hlo lo neg x
      unfold errV
      go_enter Tryz.func247, Tryz.ntmps247
      go_wp2_with fail
      go_ret2
      exact ⟨rfl, rfl⟩
end Go.Proofs.YtagiddbfhlokcaaGreatDoor
/- The table's cell for an exponent; the scaling. Condition: the cells of the table of powers. -/
namespace Go.Proofs.YtagiddbfhlokcaaGreatDoor
open Go.RowKit
set_option maxRecDepth 100000
structure Pow (T : Nat → Nat × Nat) (w : World) : Prop where
  c0 : ∀ k : Nat, k < 696 → w.cell? ⟨15, k * 2, none⟩ = some (.int .u64 ((T k).1 : Int))
  c1 : ∀ k : Nat, k < 696 → w.cell? ⟨15, k * 2 + 1, none⟩ = some (.int .u64 ((T k).2 : Int))
def Pre (w : World) (b : Nat) (x y z : Value) : Prop := w.heap[b]? = some (.cells #[x, y, z] 306 (0, 0))
theorem Pre.c0 {w : World} {b : Nat} {x y z : Value} (h : Pre w b x y z) : w.cell? ⟨b, 0, none⟩ = some x := by rw [Lib.cell_of_heap h]; rfl
theorem Pre.c1 {w : World} {b : Nat} {x y z : Value} (h : Pre w b x y z) : w.cell? ⟨b, 1, none⟩ = some y := by rw [Lib.cell_of_heap h]; rfl
theorem Pre.c2 {w : World} {b : Nat} {x y z : Value} (h : Pre w b x y z) : w.cell? ⟨b, 2, none⟩ = some z := by rw [Lib.cell_of_heap h]; rfl
theorem Pre.set0 {w : World} {b : Nat} {x y z : Value} (h : Pre w b x y z) (v : Value) : Pre (w.setCell ⟨b, 0, none⟩ v) b v y z := Joins.block_setCell (i := 0) h v
theorem Pre.set1 {w : World} {b : Nat} {x y z : Value} (h : Pre w b x y z) (v : Value) : Pre (w.setCell ⟨b, 1, none⟩ v) b x v z := Joins.block_setCell (i := 1) h v
theorem Pre.set2 {w : World} {b : Nat} {x y z : Value} (h : Pre w b x y z) (v : Value) : Pre (w.setCell ⟨b, 2, none⟩ v) b x y v := Joins.block_setCell (i := 2) h v
theorem Pow.set {T : Nat → Nat × Nat} {w : World} {b i : Nat} (h : Pow T w) (hb : 15 < b) (v : Value) : Pow T (w.setCell ⟨b, i, none⟩ v) :=
  ⟨fun k hk => by rw [World.cell?_setCell_far _ _ _ _ (by simp; omega)]; exact h.c0 k hk, fun k hk => by rw [World.cell?_setCell_far _ _ _ _ (by simp; omega)]; exact h.c1 k hk⟩
theorem prescale241 (T : Nat → Nat × Nat) (k : Nat) (hk : k < 696) (e lp : Int) (he : -100000 ≤ e) (he2 : e ≤ 100000) (hl : -100000 ≤ lp) (hl2 : lp ≤ 100000) (w : World) (b : Nat) (x y z : Value) (h : Pre w b x y z) (hp : Pow T w) (hb : 15 < b) :
    Calls Tryz.prog 241 #[.pointer (some ⟨b, 0, none⟩), .int .i64 e, .int .i64 ((k : Int) - 348), .int .i64 lp] w fun x w' => x = .returned (.tuple #[]) ∧ Pre w' b (.int .u64 ((T k).1 : Int)) (.int .u64 ((T k).2 : Int)) (.int .i64 (-(e + lp + 3))) ∧ Below b w w' := by
  have p0 := hp.c0 k hk
  have c0 := h.c0
  have h1 := h.set0 (.int .u64 ((T k).1 : Int))
  have p1 := (hp.set (i := 0) hb (.int .u64 ((T k).1 : Int))).c1 k hk
  have c1 := h1.c1
  have h2 := h1.set1 (.int .u64 ((T k).2 : Int))
  have c2 := h2.c2
  have f0 := Lib.frozen_of_heap h 0
  have f1 := Lib.frozen_of_heap h1 1
  have f2 := Lib.frozen_of_heap h2 2
  have H3 := Lib.hid (h2.set2 (.int .i64 (-(e + lp + 3))))
  have k1 : (k : Int) - 348 - -348 = (k : Int) := by omega
  clear h h1 h2 hp
  go_enter Tryz.func241, Tryz.ntmps241
  go_wp2
  go_end0
  exact ⟨rfl, H3.out, (((Below.refl b w).setCell (p := ⟨b, 0, none⟩) (Nat.le_refl _) _).setCell (p := ⟨b, 1, none⟩) (Nat.le_refl _) _).setCell (p := ⟨b, 2, none⟩) (Nat.le_refl _) _⟩
end Go.Proofs.YtagiddbfhlokcaaGreatDoor
/- The scaled product. No condition. -/
namespace Go.Proofs.YtagiddbfhlokcaaGreatDoor
open Go.RowKit
set_option maxRecDepth 100000
theorem and63i : ∀ s : Fin 64, bits BinOp.and IntKind.i64 (s.val : Int) 63 = (s.val : Int) := by decide +kernel
theorem bool213q (b : Bool) (w : World) (n : Nat) : Calls Tryz.prog 213 #[.bool b] (w.drewN n) fun e w' => e = .returned (.int .u64 (b.toNat : Int)) ∧ ∃ m, w' = w.drewN m :=
  (bool213 b (w.drewN n)).mono fun _ _ ⟨h1, h2⟩ => ⟨h1, n, h2.symm⟩
theorem mulv (x y : Nat) (hx : x < 18446744073709551616) (hy : y < 18446744073709551616) (w : World) (hi lo : Nat) (h1 : x * y / PF.two64 = hi) (h2 : x * y % PF.two64 = lo) :
    Calls Tryz.prog 271 #[.int .u64 (x : Int), .int .u64 (y : Int)] w fun e w' => e = .returned (.tuple #[.int .u64 (hi : Int), .int .u64 (lo : Int)]) ∧ w = w' := by
  refine (Tryz.bits_Mul64 x y hx hy w).mono ?_
  rintro e w' ⟨rfl, h⟩
  subst h1 h2
  exact ⟨rfl, h.symm⟩
theorem uscale242 (x c1 c2 s : Nat) (hx : x < 18446744073709551616) (hc1 : c1 < 18446744073709551616) (hc2 : c2 < 18446744073709551616) (hs : s < 64) (w : World) (b : Nat) (h : Pre w b (.int .u64 (c1 : Int)) (.int .u64 (c2 : Int)) (.int .i64 (s : Int))) :
    Calls Tryz.prog 242 #[.int .u64 (x : Int), .pointer (some ⟨b, 0, none⟩)] w fun e w' => e = .returned (.int .u64 (PF.usc x (c1, c2) s : Int)) ∧ ∃ n, w' = w.drewN n := by
  have k0 := h.c0
  have k1 := h.c1
  have k2 := h.c2
  have b7 := and63i ⟨s, hs⟩
  simp only at b7
  obtain ⟨hi, h1⟩ : ∃ hi, x * c1 / PF.two64 = hi := ⟨_, rfl⟩
  obtain ⟨mid, h2⟩ : ∃ mid, x * c1 % PF.two64 = mid := ⟨_, rfl⟩
  obtain ⟨mid2, h3⟩ : ∃ mid2, x * c2 / PF.two64 = mid2 := ⟨_, rfl⟩
  obtain ⟨lo2, h4⟩ : ∃ lo2, x * c2 % PF.two64 = lo2 := ⟨_, rfl⟩
  have m1 := fun w => mulv x c1 hx hc1 w hi mid h1 h2
  have m2 := fun w => mulv x c2 hx hc2 w mid2 lo2 h3 h4
  have M1 := Lib.hid m1
  have M2 := Lib.hid m2
  have t64 : PF.two64 = 18446744073709551616 := rfl
  have lhi : hi < 18446744073709551616 := by
    rw [← h1, t64, Nat.div_lt_iff_lt_mul (by omega)]
    exact Nat.mul_lt_mul'' hx hc1
  have lmid : mid < 18446744073709551616 := by rw [← h2]; exact Nat.mod_lt _ (by decide)
  have lmid2 : mid2 < 18446744073709551616 := by
    rw [← h3, t64, Nat.div_lt_iff_lt_mul (by omega)]
    exact Nat.mul_lt_mul'' hx hc2
  unfold PF.usc
  dsimp only
  rw [h1, h2, h3]
  clear h m1 m2 h1 h2 h3 h4
  obtain ⟨q, hq⟩ : ∃ q : Nat, hi / 2 ^ s = q := ⟨_, rfl⟩
  have p2 : 0 < 2 ^ s := Nat.two_pow_pos s
  have lq : q ≤ hi := by rw [← hq]; exact Nat.div_le_self _ _
  have qi : (hi : Int) / 2 ^ s = (q : Int) := by rw [← hq]; norm_cast
  have ql : q * 2 ^ s ≤ hi := by rw [← hq]; exact Nat.div_mul_le_self _ _
  obtain ⟨r, hr⟩ : ∃ r : Nat, q * 2 ^ s = r := ⟨_, rfl⟩
  have wr : IntKind.u64.wrap ((q : Int) * 2 ^ s) = (r : Int) := by
    have e : (q : Int) * 2 ^ s = (r : Int) := by rw [← hr]; norm_cast
    rw [e, IntKind.wrap_u64]
    omega
  rw [hq, hr]
  rw [hr] at ql
  by_cases hc : r = hi
  · rw [if_pos hc]
    subst hc
    obtain ⟨g, hg⟩ : ∃ g : Nat, (r + PF.two64 - (decide (mid < mid2)).toNat) % PF.two64 = g := ⟨_, rfl⟩
    obtain ⟨q2, hq2⟩ : ∃ q2 : Nat, g / 2 ^ s = q2 := ⟨_, rfl⟩
    obtain ⟨d, hd⟩ : ∃ d : Nat, (mid + PF.two64 - mid2) % PF.two64 = d := ⟨_, rfl⟩
    rw [hg, hq2, hd]
    have lg : g < 18446744073709551616 := by rw [← hg]; exact Nat.mod_lt _ (by decide)
    have lq2 : q2 ≤ g := by rw [← hq2]; exact Nat.div_le_self _ _
    have q2i : (g : Int) / 2 ^ s = (q2 : Int) := by rw [← hq2]; norm_cast
    have bt : (decide (mid < mid2)).toNat ≤ 1 := by cases decide (mid < mid2) <;> decide
    have wg : IntKind.u64.wrap ((r : Int) - ((decide (mid < mid2)).toNat : Int)) = (g : Int) := by
      rw [IntKind.wrap_u64, ← hg, t64]
      omega
    have wd : IntKind.u64.wrap ((mid : Int) - (mid2 : Int)) = (d : Int) := by
      rw [IntKind.wrap_u64, ← hd, t64]
      omega
    have bt2 : (decide (1 < d)).toNat ≤ 1 := by cases decide (1 < d) <;> decide
    have bo := bits_or_u64_nat q2 (decide (1 < d)).toNat (by omega) (by omega)
    obtain ⟨B2, hB2⟩ : ∃ B, decide (1 < d) = B := ⟨_, rfl⟩
    have hb2 : decide ((1 : Int) < (d : Int)) = B2 := by rw [← hB2]; exact decide_eq_decide.2 (by omega)
    have ht : ((r : Int) != (r : Int)) = false := by simp
    rw [hB2] at bo ⊢
    clear hg hq2 hd bt bt2 hB2 hr hq p2 t64
    go_enter Tryz.func242, Tryz.ntmps242
    go_wp2_with fail
    refine (M1.out _).mono ?_
    rintro e w' ⟨rfl, rfl⟩
    go_wp2_with fail
    refine (M2.out _).mono ?_
    rintro e w' ⟨rfl, rfl⟩
    go_wp2_with fail
    refine (bool213 _ _).mono ?_
    rintro e w' ⟨rfl, rfl⟩
    go_wp2_with fail
    go_quiet ((go_at_call 213; exact bool213q _ _ _))
    go_wp2_with fail
    go_ret
    exact ⟨rfl, _, rfl⟩
  · rw [if_neg hc]
    have ht : ((r : Int) != (hi : Int)) = true := by simp; omega
    have bo : bits BinOp.or IntKind.u64 (q : Int) 1 = ((q ||| 1 : Nat) : Int) := bits_or_u64_nat q 1 (by omega) (by omega)
    clear hr hq p2 t64
    go_enter Tryz.func242, Tryz.ntmps242
    go_wp2_with fail
    refine (M1.out _).mono ?_
    rintro e w' ⟨rfl, rfl⟩
    go_wp2_with fail
    go_ret
    exact ⟨by rfl, 0, rfl⟩
end Go.Proofs.YtagiddbfhlokcaaGreatDoor
/- A number of at most 19 digits times a power of ten. Condition: the cells of the table of powers. -/
namespace Go.Proofs.YtagiddbfhlokcaaGreatDoor
open Go.RowKit
set_option maxRecDepth 100000
theorem blen_eq : ∀ n : Nat, n < 18446744073709551616 → Lib.bitLen n = PF.blen n := by
  intro n
  induction n using Nat.strongRecOn with
  | ind n ih =>
    intro h
    by_cases h0 : n = 0
    · subst h0; decide
    · rw [Lib.bitLen_half n h0 h, ih (n / 2) (by omega) (by omega)]
      unfold PF.blen
      rw [if_neg h0]
      by_cases h1 : n / 2 = 0
      · have : n = 1 := by omega
        subst this
        decide
      · rw [if_neg h1, Nat.log2_def n, if_pos (by omega)]
        omega
theorem len132 (d : Nat) (hd : d < 18446744073709551616) (b : Nat) (hb : PF.blen d = b) (w : World) : Calls Tryz.prog 132 #[.int .u64 (d : Int)] w fun e w' => e = .returned (.int .i64 (b : Int)) ∧ w = w' := by
  refine (Tryz.bits_Len64 (d : Int) w (by omega) (by omega)).mono ?_
  rintro e w' ⟨rfl, h⟩
  rw [Int.toNat_natCast, blen_eq d hd, hb]
  exact ⟨rfl, h.symm⟩
def tabF (T : Nat → Nat × Nat) (p : Int) : Nat × Nat := T (p + 348).toNat
def TabLt (T : Nat → Nat × Nat) : Prop := ∀ k, (T k).1 < 18446744073709551616 ∧ (T k).2 < 18446744073709551616
set_option maxHeartbeats 1000000 in
theorem par216 (T : Nat → Nat × Nat) (hT : TabLt T) (d : Nat) (hd : d < 18446744073709551616) (p : Int) (hp : -345 ≤ p) (hp2 : p ≤ 310) (neg : Bool) (w : World) (hw : Pow T w) (h15 : 15 < w.heap.size) :
    Calls Tryz.prog 216 #[.int .u64 (d : Int), .int .i64 p, .int .u64 ((PF.sgn neg : Nat) : Int)] w fun x w' => x = .returned (.tuple #[.float .f64 (PF.par64 (tabF T) d p neg).1, errV (PF.par64 (tabF T) d p neg).2]) ∧ Below w.heap.size w w' := by
  obtain ⟨k, hk, hk2⟩ : ∃ k : Nat, p = (k : Int) - 348 ∧ k < 696 := ⟨(p + 348).toNat, by omega, by omega⟩
  obtain ⟨b, hb⟩ : ∃ b, PF.blen d = b := ⟨_, rfl⟩
  have hb64 : b ≤ 64 := by rw [← hb]; exact PF.blen_le hd
  obtain ⟨L, hL⟩ : ∃ L, PF.lpow p = L := ⟨_, rfl⟩
  have hL1 : -1200 ≤ L := by rw [← hL]; unfold PF.lpow; omega
  have hL2 : L ≤ 1200 := by rw [← hL]; unfold PF.lpow; omega
  obtain ⟨E, hE⟩ : ∃ E, PF.pE d p = E := ⟨_, rfl⟩
  have hE2 : min (1074 : Int) (53 - (b : Int) - L) = E := by rw [← hE]; unfold PF.pE; rw [hb, hL]
  have hE3 : E ≤ 1074 := by omega
  have hE4 : -1300 ≤ E := by omega
  obtain ⟨c, hc⟩ : ∃ c : Nat, 64 - b = c := ⟨_, rfl⟩
  have hc2 : 64 - (b : Int) = (c : Int) := by omega
  obtain ⟨S, hS⟩ : ∃ S, PF.pS d p = S := ⟨_, rfl⟩
  have hS2 : -(E - (c : Int) + L + 3) = S := by rw [← hS]; unfold PF.pS; rw [hE, hb, hL, hc2]
  have hS8 : 8 ≤ S := by rw [← hS]; exact PF.pS_ge d p
  have m132 := fun w => len132 d hd b hb w
  have m240 := fun w => lpow_walk p (by omega) (by omega) w
  rw [hL] at m240
  have hpre : Pre (w.alloc (.cells #[.int .u64 0, .int .u64 0, .int .i64 0] 306)) w.heap.size (.int .u64 0) (.int .u64 0) (.int .i64 0) := heap_alloc_new w _
  have hpow : Pow T (w.alloc (.cells #[.int .u64 0, .int .u64 0, .int .i64 0] 306)) := ⟨fun k hk => (((Below.refl _ _).alloc (Nat.le_refl _) _).cell (p := ⟨15, k * 2, none⟩) h15).trans (hw.c0 k hk), fun k hk => (((Below.refl _ _).alloc (Nat.le_refl _) _).cell (p := ⟨15, k * 2 + 1, none⟩) h15).trans (hw.c1 k hk)⟩
  have m241 := prescale241 T k hk2 (E - (c : Int)) L (by omega) (by omega) (by omega) (by omega) _ _ _ _ _ hpre hpow h15
  rw [hS2, ← hk] at m241
  have M132 := Lib.hid m132
  have M240 := Lib.hid m240
  have M241 := Lib.hid m241
  have h214 := run214
  have hT1 := hT k
  have ek : tabF T p = T k := by unfold tabF; congr 1; omega
  have os : bits BinOp.or IntKind.u64 ((PF.sgn neg : Nat) : Int) 0 = ((PF.sgn neg : Nat) : Int) := by
    have h := bits_or_u64_nat (PF.sgn neg) 0 (by cases neg <;> simp [PF.sgn]) (by omega)
    rw [Nat.or_zero] at h
    exact h
  have hsg : PF.sgn neg < 18446744073709551616 := by cases neg <;> simp [PF.sgn]
  by_cases hS64 : 64 ≤ S
  · have e : PF.par64 (tabF T) d p neg = (PF.sgn neg, false) := by unfold PF.par64; rw [hS, if_pos hS64]
    rw [e]
    obtain ⟨sg, hsg'⟩ : ∃ sg, PF.sgn neg = sg := ⟨_, rfl⟩
    rw [hsg'] at os ⊢
    clear e hsg hsg' hT hT1 ek m132 m240 m241 hpre hpow hw hS hE hb hL hc hp hp2 hk hk2
    unfold errV
    go_enter Tryz.func216, Tryz.ntmps216
    go_wp2_with fail
    refine (M132.out _).mono ?_
    rintro e w' ⟨rfl, rfl⟩
    go_wp2_with fail
    refine (M240.out _).mono ?_
    rintro e w' ⟨rfl, rfl⟩
    go_wp2_with fail
    refine M241.out.mono ?_
    rintro e w1 ⟨rfl, h1, hb1⟩
    have HB := Lib.hid (((Below.refl w.heap.size w).alloc (Nat.le_refl _) _).trans hb1)
    have c2 := h1.c2
    clear h1 hb1
    go_wp2_with fail
    go_ret2
    exact ⟨by rfl, HB.out⟩
  · obtain ⟨s, rfl⟩ : ∃ s : Nat, S = s := ⟨S.toNat, by omega⟩
    have hs64 : s < 64 := by omega
    obtain ⟨x, hx⟩ : ∃ x : Nat, d * 2 ^ c % 18446744073709551616 = x := ⟨_, rfl⟩
    have lx : x < 18446744073709551616 := by rw [← hx]; exact Nat.mod_lt _ (by omega)
    have wx : IntKind.u64.wrap ((d : Int) * 2 ^ c) = (x : Int) := by
      have e : (d : Int) * 2 ^ c = ((d * 2 ^ c : Nat) : Int) := by norm_cast
      rw [e, IntKind.wrap_u64, ← hx]
      obtain ⟨z, hz⟩ : ∃ z : Nat, d * 2 ^ c = z := ⟨_, rfl⟩
      rw [hz]
      omega
    obtain ⟨u, hu⟩ : ∃ u : Nat, PF.usc x (T k) s = u := ⟨_, rfl⟩
    have lu : u < 72057594037927936 := by rw [← hu]; exact PF.usc_lt x s (T k) lx hT1.1 (by omega)
    have m242 := fun w' h => uscale242 x (T k).1 (T k).2 s lx hT1.1 hT1.2 hs64 w' w.heap.size h
    obtain ⟨v, hv⟩ : ∃ v : Nat, (if decide (36028797018963966 ≤ u) then u / 2 ||| u % 2 else u) = v := ⟨_, rfl⟩
    obtain ⟨e', he'⟩ : ∃ e' : Int, -(E - (if decide (36028797018963966 ≤ u) then 1 else 0)) = e' := ⟨_, rfl⟩
    have e : PF.par64 (tabF T) d p neg = PF.pack (PF.sgn neg + PF.rnd v) e' := by
      unfold PF.par64
      rw [hS, if_neg hS64, ek, hb, hE, hc]
      have t64 : PF.two64 = 18446744073709551616 := rfl
      dsimp only
      rw [t64, hx, Int.toNat_natCast, hu, hv, he']
    rw [e]
    have lv : v < 36028797018963968 ∧ -1074 ≤ e' ∧ e' ≤ 5000 := by
      rw [← hv, ← he']
      by_cases hB : 36028797018963966 ≤ u
      · simp only [hB, decide_true, if_true]
        exact ⟨PF.half_or u lu, by omega, by omega⟩
      · simp only [hB, decide_false, if_false, Bool.false_eq_true]
        exact ⟨by omega, by omega, by omega⟩
    obtain ⟨r, hr⟩ : ∃ r : Nat, PF.rnd v = r := ⟨_, rfl⟩
    have lr : r ≤ 9007199254740992 := by rw [← hr]; unfold PF.rnd; omega
    have m245 := fun w => round245 v (by omega) w
    have m247 := fun w => pack247 neg r lr e' lv.2.1 lv.2.2 w
    rw [hr] at m245 ⊢
    have om : bits BinOp.or IntKind.u64 ((PF.sgn neg : Nat) : Int) (r : Int) = ((PF.sgn neg + r : Nat) : Int) := by
      have h := bits_or_u64_nat (PF.sgn neg) r hsg (by omega)
      rw [PF.or_sgn neg r (by omega)] at h
      exact h
    obtain ⟨res, hres⟩ : ∃ res, PF.pack (PF.sgn neg + r) e' = res := ⟨_, rfl⟩
    obtain ⟨m, hm⟩ : ∃ m, PF.sgn neg + r = m := ⟨_, rfl⟩
    rw [hres] at m247 ⊢
    rw [hm] at m247 om
    obtain ⟨sg, hsg'⟩ : ∃ sg, PF.sgn neg = sg := ⟨_, rfl⟩
    rw [hsg'] at om ⊢
    have M242 := Lib.hid m242
    have M245 := Lib.hid m245
    have M247 := Lib.hid m247
    have a1 : bits BinOp.and IntKind.u64 (u : Int) 1 = ((u % 2 : Nat) : Int) := by
      have h := bits_and_u64_nat u 1 (by omega) (by omega)
      rw [Nat.and_one_is_mod] at h
      exact h
    obtain ⟨y, hy⟩ : ∃ y : Nat, u % 2 = y := ⟨_, rfl⟩
    rw [hy] at a1 hv
    have m160t := bool160 true
    have m160f := bool160 false
    have HU := Lib.hid hu
    by_cases hB : 36028797018963966 ≤ u
    · simp only [hB, decide_true, if_true] at hv he'
      obtain ⟨q, hq⟩ : ∃ q : Nat, u / 2 = q := ⟨_, rfl⟩
      have qi : (u : Int) / 2 = (q : Int) := by omega
      have vo := bits_or_u64_nat q y (by omega) (by omega)
      rw [hq] at hv
      rw [hv] at vo
      have hBi : (36028797018963966 : Int) ≤ (u : Int) := by omega
      have ee : -(E - 1) = e' := he'
      clear hsg hsg' hT hT1 ek m132 m240 m241 hpre hpow hw hS hE hb hL hc hp hp2 hk hk2 m242 m245 m247 hres hm hr hv he' e hx lv lr hB hq hy hu os
      go_enter Tryz.func216, Tryz.ntmps216
      go_wp2_with fail
      refine (M132.out _).mono ?_
      rintro e w' ⟨rfl, rfl⟩
      go_wp2_with fail
      refine (M240.out _).mono ?_
      rintro e w' ⟨rfl, rfl⟩
      go_wp2_with fail
      refine M241.out.mono ?_
      rintro e w1 ⟨rfl, h1, hb1⟩
      have HB := Lib.hid (((Below.refl w.heap.size w).alloc (Nat.le_refl _) _).trans hb1)
      have c2 := h1.c2
      have H1 := Lib.hid h1
      clear h1 hb1
      go_wp2_with fail
      refine (M242.out _ H1.out).mono ?_
      rintro e w2 ⟨rfl, n, rfl⟩
      have hu := HU.out
      rw [show ((T k).1, (T k).2) = T k from rfl, hu]
      clear hu
      go_wp2_with fail
      refine (unmin53 _).mono ?_
      rintro e w' ⟨rfl, rfl⟩
      go_wp2_with fail
      refine (m160t _).mono ?_
      rintro e w' ⟨rfl, rfl⟩
      go_wp2_with fail
      refine (M245.out _).mono ?_
      rintro e w' ⟨rfl, rfl⟩
      go_wp2_with fail
      refine (M247.out _).mono ?_
      rintro e w' ⟨rfl, rfl⟩
      go_wp2_with fail
      go_ret2
      exact ⟨by rfl, below_drewN HB.out n⟩
    · simp only [hB, decide_false, if_false, Bool.false_eq_true] at hv he'
      have vo := bits_or_u64_nat u y (by omega) (by omega)
      have uo : u ||| y = u := by rw [← hy]; exact PF.or_mod2 u
      rw [uo] at vo
      subst hv
      have hBi : decide ((36028797018963966 : Int) ≤ (u : Int)) = false := decide_eq_false (by omega)
      have ee : -(E - 0) = e' := he'
      rw [Int.sub_zero] at ee
      clear hsg hsg' hT hT1 ek m132 m240 m241 hpre hpow hw hS hE hb hL hc hp hp2 hk hk2 m242 m245 m247 hres hm hr he' e hx lv lr hB hy hu os uo
      go_enter Tryz.func216, Tryz.ntmps216
      go_wp2_with fail
      refine (M132.out _).mono ?_
      rintro e w' ⟨rfl, rfl⟩
      go_wp2_with fail
      refine (M240.out _).mono ?_
      rintro e w' ⟨rfl, rfl⟩
      go_wp2_with fail
      refine M241.out.mono ?_
      rintro e w1 ⟨rfl, h1, hb1⟩
      have HB := Lib.hid (((Below.refl w.heap.size w).alloc (Nat.le_refl _) _).trans hb1)
      have c2 := h1.c2
      have H1 := Lib.hid h1
      clear h1 hb1
      go_wp2_with fail
      refine (M242.out _ H1.out).mono ?_
      rintro e w2 ⟨rfl, n, rfl⟩
      have hu := HU.out
      rw [show ((T k).1, (T k).2) = T k from rfl, hu]
      clear hu
      go_wp2_with fail
      refine (unmin53 _).mono ?_
      rintro e w' ⟨rfl, rfl⟩
      go_wp2_with fail
      refine (m160f _).mono ?_
      rintro e w' ⟨rfl, rfl⟩
      go_wp2_with fail
      refine (M245.out _).mono ?_
      rintro e w' ⟨rfl, rfl⟩
      go_wp2_with fail
      refine (M247.out _).mono ?_
      rintro e w' ⟨rfl, rfl⟩
      go_wp2_with fail
      go_ret2
      exact ⟨by rfl, below_drewN HB.out n⟩
end Go.Proofs.YtagiddbfhlokcaaGreatDoor
/- A float's sign turned. No condition. -/
namespace PF
theorem xor63 (x : Nat) (h : x < 9223372036854775808) : x ^^^ 9223372036854775808 = x + 9223372036854775808 := by
  have hl : x < 2 ^ 63 := h
  have e : x + 9223372036854775808 = x ||| 2 ^ 63 := by
    rw [Nat.or_comm, Nat.add_comm]
    exact Nat.two_pow_add_eq_or_of_lt hl 1
  rw [e]
  show x ^^^ 2 ^ 63 = _
  apply Nat.eq_of_testBit_eq
  intro i
  rw [Nat.testBit_xor, Nat.testBit_or, Nat.testBit_two_pow]
  by_cases hi : 63 = i
  · subst hi
    rw [Nat.testBit_lt_two_pow hl]
    simp
  · simp [hi]
end PF
/- The short way: a product or a quotient of floats. Conditions: the cells of the table of powers as floats; the number of a mantissa's bits. -/
namespace Go.Proofs.YtagiddbfhlokcaaGreatDoor
open Go.RowKit
set_option maxRecDepth 100000
set_option maxHeartbeats 2000000
structure Flo (T : Nat → Nat) (w : World) : Prop where
  info : w.cell? ⟨7, 0, none⟩ = some (.int .u64 52)
  ok : PF.TabOk T
  tab : ∃ g o, w.cell? ⟨12, 0, none⟩ = some (.slice (some ⟨g, o, none⟩) 23 23) ∧ ∀ k : Nat, k ≤ 22 → w.cell? ⟨g, o + k, none⟩ = some (.float .f64 (T k))
theorem neg63 (man : Nat) : Op.negFloat .f64 (floatOfInt .f64 (man : Int)) = floatOfInt .f64 (man : Int) + 9223372036854775808 := by
  have h : floatOfInt .f64 (man : Int) < 9223372036854775808 := by rw [PF.ofInt_eq]; exact PF.nearest_pos _ _
  exact PF.xor63 _ h
/-- The answer, and whether it is one. -/
def ExPost (o : Option Nat) (e : Ending) : Prop := (∃ r, o = some r ∧ e = .returned (.tuple #[.float .f64 r, .bool true])) ∨ (o = none ∧ ∃ x, e = .returned (.tuple #[.float .f64 x, .bool false]))
theorem ExPost.yes {o : Option Nat} {e : Ending} (r : Nat) (h : o = some r) (he : e = .returned (.tuple #[.float .f64 r, .bool true])) : ExPost o e := .inl ⟨r, h, he⟩
theorem ExPost.no {o : Option Nat} {e : Ending} (x : Nat) (h : o = none) (he : e = .returned (.tuple #[.float .f64 x, .bool false])) : ExPost o e := .inr ⟨h, x, he⟩
theorem exact215 (T : Nat → Nat) (man : Nat) (hm : man < 18446744073709551616) (p : Int) (hp : -1000 ≤ p) (hp2 : p ≤ 1000) (neg : Bool) (w : World) (hw : Flo T w) :
    Calls Tryz.prog 215 #[.int .u64 (man : Int), .int .i64 p, .bool neg] w fun e w' => ExPost (PF.exact64 T man p neg) e ∧ w = w' := by
  obtain ⟨hi, hok, g, o, h12, htab⟩ := hw
  by_cases hc : man / 4503599627370496 = 0
  · have qi : (man : Int) / 4503599627370496 = 0 := by omega
    have hfl := PF.flt_low man neg hm
    obtain ⟨F0, hF0⟩ : ∃ F0, floatOfInt .f64 (man : Int) = F0 := ⟨_, rfl⟩
    obtain ⟨f, hf⟩ : ∃ f, PF.flt man neg = f := ⟨_, rfl⟩
    have hn : neg = true → Op.negFloat .f64 F0 = f := by
      rintro rfl
      rw [← hF0, ← hf, neg63]; rfl
    have hn2 : neg = false → F0 = f := by
      rintro rfl
      rw [← hF0, ← hf]; rfl
    rw [hf] at hfl
    by_cases h0 : p = 0
    · have e : PF.exact64 T man p neg = some f := by unfold PF.exact64; rw [if_neg (by omega), if_pos h0, hf]
      rw [e]
      clear e hf hfl hc
      subst h0
      cases neg
      · have hn2 := hn2 rfl
        subst hn2
        clear hn
        go_enter Tryz.func215, Tryz.ntmps215
        go_wp2_with fail
        go_ret2
        exact ⟨.yes _ rfl rfl, rfl⟩
      · have hu : Op.unary .neg (.float .f64 F0) = pure (.float .f64 f) := by rw [← hn rfl]; rfl
        clear hn hn2
        go_enter Tryz.func215, Tryz.ntmps215
        go_wp2_with fail
        go_ret2
        exact ⟨.yes _ rfl rfl, rfl⟩
    · by_cases hU : 0 < p ∧ p ≤ 37
      · obtain ⟨k, rfl⟩ : ∃ k : Nat, p = k := ⟨p.toNat, by omega⟩
        have e : PF.exact64 T man k neg = PF.exU T f k := by unfold PF.exact64; rw [if_neg (by omega), if_neg h0, if_pos hU, hf, Int.toNat_natCast]
        rw [e]
        have k0 : (0 : Int) < (k : Int) := hU.1
        have k37 : (k : Int) ≤ 37 := hU.2
        clear e hf hc h0 hU
        unfold PF.exU
        by_cases h22 : 22 < k
        · obtain ⟨j, hj⟩ : ∃ j : Nat, k - 22 = j := ⟨_, rfl⟩
          have hj2 : (k : Int) - 22 = (j : Int) := by omega
          have hj23 : (j : Int) < 23 := by omega
          have k22 : (22 : Int) < (k : Int) := by omega
          have t1 := hok j (by omega)
          have t2 := hok 22 (by omega)
          have m1 := PF.mulF_eq (E := 1170) hfl.1 t1.1 (by omega) (by omega) (by omega) (by omega) (by omega)
          have m2 := PF.mulF_eq (E := 1400) m1.2.1 t2.1 (by omega) (by omega) (by omega) (by omega) (by omega)
          have c1 := htab j (by omega)
          have c2 := htab 22 (by omega)
          have emin : min k 22 = 22 := by omega
          dsimp only
          rw [if_pos h22, hj, emin]
          have r1 := fun w => run_float_arith (P := Tryz.prog) w .mul 99 .f64 f (T j) _ m1.1
          have r2 := fun w => run_float_arith (P := Tryz.prog) w .mul 99 .f64 (PF.mulF f (T j)) (T 22) _ m2.1
          obtain ⟨y, hy⟩ : ∃ y, PF.mulF f (T j) = y := ⟨_, rfl⟩
          rw [hy] at r1 r2 ⊢
          obtain ⟨z, hz⟩ : ∃ z, PF.mulF y (T 22) = z := ⟨_, rfl⟩
          rw [hz] at r2 ⊢
          clear m1 m2 t1 t2 hfl emin hj h22 htab hok hy hz
          by_cases b1 : PF.gtF y PF.e15 = true
          · rw [if_pos (by rw [b1]; rfl)]
            have b1 : (FloatKind.f64.format.order y 4831355200913801216 == some .gt) = true := b1
            cases neg
            · have hn2 := hn2 rfl
              subst hn2
              clear hn
              go_enter Tryz.func215, Tryz.ntmps215
              go_wp2_with fail
              go_ret2
              exact ⟨.no _ rfl rfl, rfl⟩
            · have hu : Op.unary .neg (.float .f64 F0) = pure (.float .f64 f) := by rw [← hn rfl]; rfl
              clear hn hn2
              go_enter Tryz.func215, Tryz.ntmps215
              go_wp2_with fail
              go_ret2
              exact ⟨.no _ rfl rfl, rfl⟩
          · have b1 : PF.gtF y PF.e15 = false := by simpa using b1
            have b1' : (FloatKind.f64.format.order y 4831355200913801216 == some .gt) = false := b1
            by_cases b2 : PF.ltF y PF.ne15 = true
            · rw [if_pos (by rw [b1, b2]; rfl)]
              have b2 : (FloatKind.f64.format.order y 14054727237768577024 == some .lt) = true := b2
              clear b1
              cases neg
              · have hn2 := hn2 rfl
                subst hn2
                clear hn
                go_enter Tryz.func215, Tryz.ntmps215
                go_wp2_with fail
                go_ret2
                exact ⟨.no _ rfl rfl, rfl⟩
              · have hu : Op.unary .neg (.float .f64 F0) = pure (.float .f64 f) := by rw [← hn rfl]; rfl
                clear hn hn2
                go_enter Tryz.func215, Tryz.ntmps215
                go_wp2_with fail
                go_ret2
                exact ⟨.no _ rfl rfl, rfl⟩
            · have b2 : PF.ltF y PF.ne15 = false := by simpa using b2
              rw [if_neg (by rw [b1, b2]; decide)]
              have b2' : (FloatKind.f64.format.order y 14054727237768577024 == some .lt) = false := b2
              clear b1 b2
              cases neg
              · have hn2 := hn2 rfl
                subst hn2
                clear hn
                go_enter Tryz.func215, Tryz.ntmps215
                go_wp2_with fail
                go_ret2
                exact ⟨.yes _ rfl rfl, rfl⟩
              · have hu : Op.unary .neg (.float .f64 F0) = pure (.float .f64 f) := by rw [← hn rfl]; rfl
                clear hn hn2
                go_enter Tryz.func215, Tryz.ntmps215
                go_wp2_with fail
                go_ret2
                exact ⟨.yes _ rfl rfl, rfl⟩
        · have k22 : (k : Int) ≤ 22 := by omega
          have t2 := hok k (by omega)
          have m2 := PF.mulF_eq (E := 1400) hfl.1 t2.1 (by omega) (by omega) (by omega) (by omega) (by omega)
          have c2 := htab k (by omega)
          have emin : min k 22 = k := by omega
          dsimp only
          rw [if_neg h22, emin]
          have r2 := fun w => run_float_arith (P := Tryz.prog) w .mul 99 .f64 f (T k) _ m2.1
          obtain ⟨z, hz⟩ : ∃ z, PF.mulF f (T k) = z := ⟨_, rfl⟩
          rw [hz] at r2 ⊢
          clear m2 t2 hfl emin h22 htab hok hz
          by_cases b1 : PF.gtF f PF.e15 = true
          · rw [if_pos (by rw [b1]; rfl)]
            have b1 : (FloatKind.f64.format.order f 4831355200913801216 == some .gt) = true := b1
            cases neg
            · have hn2 := hn2 rfl
              subst hn2
              clear hn
              go_enter Tryz.func215, Tryz.ntmps215
              go_wp2_with fail
              go_ret2
              exact ⟨.no _ rfl rfl, rfl⟩
            · have hu : Op.unary .neg (.float .f64 F0) = pure (.float .f64 f) := by rw [← hn rfl]; rfl
              clear hn hn2
              go_enter Tryz.func215, Tryz.ntmps215
              go_wp2_with fail
              go_ret2
              exact ⟨.no _ rfl rfl, rfl⟩
          · have b1 : PF.gtF f PF.e15 = false := by simpa using b1
            have b1' : (FloatKind.f64.format.order f 4831355200913801216 == some .gt) = false := b1
            by_cases b2 : PF.ltF f PF.ne15 = true
            · rw [if_pos (by rw [b1, b2]; rfl)]
              have b2 : (FloatKind.f64.format.order f 14054727237768577024 == some .lt) = true := b2
              clear b1
              cases neg
              · have hn2 := hn2 rfl
                subst hn2
                clear hn
                go_enter Tryz.func215, Tryz.ntmps215
                go_wp2_with fail
                go_ret2
                exact ⟨.no _ rfl rfl, rfl⟩
              · have hu : Op.unary .neg (.float .f64 F0) = pure (.float .f64 f) := by rw [← hn rfl]; rfl
                clear hn hn2
                go_enter Tryz.func215, Tryz.ntmps215
                go_wp2_with fail
                go_ret2
                exact ⟨.no _ rfl rfl, rfl⟩
            · have b2 : PF.ltF f PF.ne15 = false := by simpa using b2
              rw [if_neg (by rw [b1, b2]; decide)]
              have b2' : (FloatKind.f64.format.order f 14054727237768577024 == some .lt) = false := b2
              clear b1 b2
              cases neg
              · have hn2 := hn2 rfl
                subst hn2
                clear hn
                go_enter Tryz.func215, Tryz.ntmps215
                go_wp2_with fail
                go_ret2
                exact ⟨.yes _ rfl rfl, rfl⟩
              · have hu : Op.unary .neg (.float .f64 F0) = pure (.float .f64 f) := by rw [← hn rfl]; rfl
                clear hn hn2
                go_enter Tryz.func215, Tryz.ntmps215
                go_wp2_with fail
                go_ret2
                exact ⟨.yes _ rfl rfl, rfl⟩
      · by_cases hD : p < 0 ∧ -22 ≤ p
        · obtain ⟨k, rfl⟩ : ∃ k : Nat, p = -(k : Int) := ⟨(-p).toNat, by omega⟩
          have e : PF.exact64 T man (-(k : Int)) neg = some (PF.divF f (T k)) := by unfold PF.exact64; rw [if_neg (by omega), if_neg h0, if_neg hU, if_pos hD, hf]; congr 3; omega
          rw [e]
          have kn : -(k : Int) < 0 := hD.1
          have k22 : -22 ≤ -(k : Int) := hD.2
          have k23 : (k : Int) < 23 := by omega
          have kz : (-(k : Int) == 0) = false := by simp; omega
          have kp : decide (0 < -(k : Int)) = false := decide_eq_false (by omega)
          have t2 := hok k (by omega)
          have m2 := PF.divF_eq (E := 1500) hfl.1 t2.1 t2.2.1 (by omega) (by omega) (by omega) (by omega) (by omega) (by omega)
          have c2 := htab k (by omega)
          have r2 := fun w => run_float_arith (P := Tryz.prog) w .quo 99 .f64 f (T k) _ m2.1
          obtain ⟨z, hz⟩ : ∃ z, PF.divF f (T k) = z := ⟨_, rfl⟩
          rw [hz] at r2 ⊢
          clear m2 t2 hfl htab hok hz e hf hc h0 hU hD
          cases neg
          · have hn2 := hn2 rfl
            subst hn2
            clear hn
            go_enter Tryz.func215, Tryz.ntmps215
            go_wp2_with fail
            go_ret2
            exact ⟨.yes _ rfl rfl, rfl⟩
          · have hu : Op.unary .neg (.float .f64 F0) = pure (.float .f64 f) := by rw [← hn rfl]; rfl
            clear hn hn2
            go_enter Tryz.func215, Tryz.ntmps215
            go_wp2_with fail
            go_ret2
            exact ⟨.yes _ rfl rfl, rfl⟩
        · have e : PF.exact64 T man p neg = none := by unfold PF.exact64; rw [if_neg (by omega), if_neg h0, if_neg hU, if_neg hD]
          rw [e]
          have kz : (p == 0) = false := by simp; omega
          clear e hfl htab hok hf
          by_cases hpos : 0 < p
          · have k37 : decide (p ≤ 37) = false := decide_eq_false (by omega)
            have kn : decide (p < 0) = false := decide_eq_false (by omega)
            clear hU hD hc
            cases neg
            · have hn2 := hn2 rfl
              subst hn2
              clear hn
              go_enter Tryz.func215, Tryz.ntmps215
              go_wp2_with fail
              go_ret2
              exact ⟨.no _ rfl rfl, rfl⟩
            · have hu : Op.unary .neg (.float .f64 F0) = pure (.float .f64 f) := by rw [← hn rfl]; rfl
              clear hn hn2
              go_enter Tryz.func215, Tryz.ntmps215
              go_wp2_with fail
              go_ret2
              exact ⟨.no _ rfl rfl, rfl⟩
          · have kp : decide (0 < p) = false := decide_eq_false hpos
            have kn : p < 0 := by omega
            have k22 : decide (-22 ≤ p) = false := decide_eq_false (by omega)
            clear hU hD hc hpos
            cases neg
            · have hn2 := hn2 rfl
              subst hn2
              clear hn
              go_enter Tryz.func215, Tryz.ntmps215
              go_wp2_with fail
              go_ret2
              exact ⟨.no _ rfl rfl, rfl⟩
            · have hu : Op.unary .neg (.float .f64 F0) = pure (.float .f64 f) := by rw [← hn rfl]; rfl
              clear hn hn2
              go_enter Tryz.func215, Tryz.ntmps215
              go_wp2_with fail
              go_ret2
              exact ⟨.no _ rfl rfl, rfl⟩
  · have e : PF.exact64 T man p neg = none := by unfold PF.exact64; rw [if_pos hc]
    rw [e]
    obtain ⟨q, hq⟩ : ∃ q : Nat, man / 4503599627370496 = q := ⟨_, rfl⟩
    have qi : (man : Int) / 4503599627370496 = (q : Int) := by omega
    have qn : ((q : Int) != 0) = true := by simp; omega
    clear e hc hq
    go_enter Tryz.func215, Tryz.ntmps215
    go_wp2_with fail
    go_ret2
    exact ⟨.no _ rfl rfl, rfl⟩
end Go.Proofs.YtagiddbfhlokcaaGreatDoor
/- A text that begins with a digit, perhaps behind a sign, is no special name. No condition. -/
namespace Go.Proofs.YtagiddbfhlokcaaGreatDoor
open Go.RowKit
set_option maxRecDepth 100000
theorem prefix237 (s : ByteArray) (c : UInt8) (h0 : 0 < s.size) (hc : s[0] = c) (hd : c.toNat ≤ 57) (w : World) :
    Calls Tryz.prog 237 #[.string s, .string ⟨#[105, 110, 102, 105, 110, 105, 116, 121]⟩] w fun e w' => e = .returned (.int .i64 0) ∧ w = w' := by
  obtain ⟨n, hn⟩ : ∃ n : Nat, min 8 s.size = n := ⟨_, rfl⟩
  have hn1 : (0 : Int) < (n : Int) := by omega
  have hmin : min (8 : Int) (s.size : Int) = (n : Int) := by omega
  have hc65 : ¬(65 : Int) ≤ (c.toNat : Int) := by omega
  have hne : ((c.toNat : Int) != 105) = true := by simp; omega
  have hx : ((ByteArray.mk #[105, 110, 102, 105, 110, 105, 116, 121])[0]'(by decide)).toNat = 105 := by rfl
  have h0i : (0 : Int) < (s.size : Int) := by omega
  clear hd
  go_enter Tryz.func237, Tryz.ntmps237
  go_wp2
  go_loopw [6] (fun i wr => i = .int .i64 0 ∧ w = wr) (fun _ _ => 0)
  case atStart => exact ⟨rfl, rfl⟩
  case round =>
    obtain ⟨rfl, rfl⟩ := hrel
    go_wp2
    go_ret
    exact ⟨rfl, rfl⟩
/-- The text behind a sign. -/
def Digit0 (s : ByteArray) : Prop := ∃ (h : 0 < s.size), 48 ≤ s[0].toNat ∧ s[0].toNat ≤ 57
theorem special204_digit (s : ByteArray) (hd : Digit0 s) (w : World) :
    Calls Tryz.prog 204 #[.string s] w fun e w' => e = .returned (.tuple #[.float .f64 0, .int .i64 0, .bool false]) ∧ w = w' := by
  obtain ⟨h0, hd1, hd2⟩ := hd
  obtain ⟨c, hc⟩ : ∃ c, s[0] = c := ⟨_, rfl⟩
  rw [hc] at hd1 hd2
  have e1 : ((c.toNat : Int) == 43) = false := by rw [beq_eq_false_iff_ne]; omega
  have e2 : ((c.toNat : Int) == 45) = false := by rw [beq_eq_false_iff_ne]; omega
  have e3 : ((c.toNat : Int) == 105) = false := by rw [beq_eq_false_iff_ne]; omega
  have e4 : ((c.toNat : Int) == 73) = false := by rw [beq_eq_false_iff_ne]; omega
  have e5 : ((c.toNat : Int) == 110) = false := by rw [beq_eq_false_iff_ne]; omega
  have e6 : ((c.toNat : Int) == 78) = false := by rw [beq_eq_false_iff_ne]; omega
  have h0i : ((s.size : Int) == 0) = false := by rw [beq_eq_false_iff_ne]; omega
  have h0j : (0 : Int) < (s.size : Int) := by omega
  clear hd1 hd2
  go_enter Tryz.func204, Tryz.ntmps204
  go_wp2
  go_ret3
  exact ⟨rfl, rfl⟩
def Digit1 (s : ByteArray) : Prop := ∃ (h : 1 < s.size), s[0].toNat = 45 ∧ 48 ≤ s[1].toNat ∧ s[1].toNat ≤ 57
theorem special204_minus (s : ByteArray) (hd : Digit1 s) (w : World) :
    Calls Tryz.prog 204 #[.string s] w fun e w' => e = .returned (.tuple #[.float .f64 0, .int .i64 0, .bool false]) ∧ w = w' := by
  obtain ⟨h0, hm, hd1, hd2⟩ := hd
  obtain ⟨c, hc⟩ : ∃ c, s[0] = c := ⟨_, rfl⟩
  obtain ⟨d, hd⟩ : ∃ d, s[1] = d := ⟨_, rfl⟩
  rw [hc] at hm
  rw [hd] at hd1 hd2
  have e1 : ((c.toNat : Int) == 43) = false := by rw [beq_eq_false_iff_ne]; omega
  have e2 : ((c.toNat : Int) == 45) = true := by rw [beq_iff_eq]; omega
  have h0i : ((s.size : Int) == 0) = false := by rw [beq_eq_false_iff_ne]; omega
  have h0j : (0 : Int) < (s.size : Int) := by omega
  have h1j : (1 : Int) ≤ (s.size : Int) := by omega
  have hp := fun w => prefix237 (s.extract 1 s.size) d (by rw [ByteArray.size_extract]; omega) (by rw [ByteArray.getElem_extract]; exact hd) (by omega) w
  have HP := Lib.hid hp
  clear hd1 hd2 hm hp
  go_enter Tryz.func204, Tryz.ntmps204
  go_wp2_with fail
  refine (HP.out _).mono ?_
  rintro e w' ⟨rfl, rfl⟩
  go_wp2_with fail
  go_ret3
  exact ⟨rfl, rfl⟩
end Go.Proofs.YtagiddbfhlokcaaGreatDoor
/- The bytes of a text that is read as a float; 'lower'. No condition. -/
namespace Go.Proofs.YtagiddbfhlokcaaGreatDoor
open Go.RowKit
set_option maxRecDepth 100000
def lowI (c : UInt8) : Int := bits BinOp.or IntKind.u8 (c.toNat : Int) 32
theorem lower200 (c : UInt8) (w : World) : Calls Tryz.prog 200 #[.int .u8 (c.toNat : Int)] w fun e w' => e = .returned (.int .u8 (lowI c)) ∧ w = w' := by
  unfold lowI
  go_enter Tryz.func200, Tryz.ntmps200
  go_wp2
  go_ret
  exact ⟨rfl, rfl⟩
theorem lowI_all : ∀ n : Fin 256, (n.val ≠ 88 → n.val ≠ 120 → bits BinOp.or IntKind.u8 (n.val : Int) 32 ≠ 120) ∧ (n.val = 101 ∨ n.val = 69 → bits BinOp.or IntKind.u8 (n.val : Int) 32 = 101) := by decide +kernel
theorem lowI_x (c : UInt8) (h1 : c.toNat ≠ 88) (h2 : c.toNat ≠ 120) : lowI c ≠ 120 := (lowI_all ⟨c.toNat, c.toNat_lt⟩).1 h1 h2
theorem lowI_e (c : UInt8) (h : c.toNat = 101 ∨ c.toNat = 69) : lowI c = 101 := (lowI_all ⟨c.toNat, c.toNat_lt⟩).2 h
/-- A byte that may stand in such a text. -/
def okB (c : UInt8) : Prop := (48 ≤ c.toNat ∧ c.toNat ≤ 57) ∨ c.toNat = 46 ∨ c.toNat = 101 ∨ c.toNat = 69 ∨ c.toNat = 43 ∨ c.toNat = 45
theorem isDig_iff (c : UInt8) : PF.isDig c = true ↔ 48 ≤ c.toNat ∧ c.toNat ≤ 57 := by simp [PF.isDig]
theorem okD_all {l : List UInt8} (h : PF.okD l = true) : l ≠ [] ∧ ∀ c ∈ l, 48 ≤ c.toNat ∧ c.toNat ≤ 57 := by
  unfold PF.okD at h
  simp only [Bool.and_eq_true, Bool.not_eq_true', List.all_eq_true] at h
  exact ⟨by intro e; rw [e] at h; simp at h, fun c hc => (isDig_iff c).1 (h.2 c hc)⟩
theorem okX_all {l : List UInt8} (h : PF.okX l = true) : ∀ c ∈ l, okB c := by
  cases l with
  | nil => intro c hc; cases hc
  | cons a r =>
    have h : (if a = 43 ∨ a = 45 then PF.okD r else PF.okD (a :: r)) = true := h
    split at h
    · rename_i ha
      intro c hc
      rcases List.mem_cons.1 hc with rfl | hc
      · rcases ha with rfl | rfl <;> simp [okB]
      · exact .inl ((okD_all h).2 c hc)
    · intro c hc
      exact .inl ((okD_all h).2 c hc)
theorem okM_all : ∀ {l : List UInt8} {dot saw : Bool}, PF.okM dot saw l = true → ∀ c ∈ l, okB c
  | [], _, _, _, c, hc => by cases hc
  | a :: r, dot, saw, h, c, hc => by
    unfold PF.okM at h
    split at h
    · rename_i hd
      rcases List.mem_cons.1 hc with rfl | hc
      · exact .inl ((isDig_iff c).1 hd)
      · exact okM_all h c hc
    · split at h
      · rename_i ha
        simp only [Bool.and_eq_true] at h
        rcases List.mem_cons.1 hc with rfl | hc
        · subst ha; simp [okB]
        · exact okM_all h.2 c hc
      · simp only [Bool.and_eq_true, Bool.or_eq_true, decide_eq_true_eq] at h
        rcases List.mem_cons.1 hc with rfl | hc
        · rcases h.1 with rfl | rfl <;> simp [okB]
        · exact okX_all h.2.2 c hc
theorem okM_head {a : UInt8} {r : List UInt8} (h : PF.okM false false (a :: r) = true) : 48 ≤ a.toNat ∧ a.toNat ≤ 57 := by
  unfold PF.okM at h
  split at h
  · rename_i hd; exact (isDig_iff a).1 hd
  · split at h <;> simp at h
end Go.Proofs.YtagiddbfhlokcaaGreatDoor
/- The slow way of ParseFloat, in plain Lean: decimals, shifts, bits. No condition. -/
namespace PF
/-- Digits as a number. -/
def val (ds : List Nat) : Nat := ds.foldl (fun n d => n * 10 + d) 0
/-- A number's digits. -/
def dgs (n : Nat) : List Nat := if n = 0 then [] else dgs (n / 10) ++ [n % 10]
termination_by n
decreasing_by omega
structure Dec where
  ds : List Nat
  dp : Int
  tr : Bool
def trimL (ds : List Nat) : List Nat := (ds.reverse.dropWhile (· == 0)).reverse
def Dec.trim (a : Dec) : Dec := ⟨trimL a.ds, (if trimL a.ds = [] then 0 else a.dp), a.tr⟩
/-- The first digits of a shift to the right: what is left of them, the number, how many were read. -/
def rsz (k : Nat) : Nat → Nat → Nat → Nat × Nat
  | 0, n, r => (n, r)
  | f + 1, n, r => if n / 2 ^ k = 0 then rsz k f (n * 10) (r + 1) else (n, r)
def rs1 (k : Nat) : List Nat → Nat → Nat → List Nat × Nat × Nat
  | [], n, r => ([], (rsz k (k + 1) n r).1, (rsz k (k + 1) n r).2)
  | d :: t, n, r => if n / 2 ^ k = 0 then rs1 k t (n * 10 + d) (r + 1) else (d :: t, n, r)
/-- A digit up, a digit down. -/
def rs2 (k : Nat) : List Nat → Nat → List Nat × Nat
  | [], n => ([], n)
  | c :: t, n => (n / 2 ^ k :: (rs2 k t (n % 2 ^ k * 10 + c)).1, (rs2 k t (n % 2 ^ k * 10 + c)).2)
/-- What is left; w digits are there. -/
def rs3 (k : Nat) : Nat → Nat → Nat → List Nat × Bool
  | 0, _, _ => ([], false)
  | f + 1, n, w => if n = 0 then ([], false) else if w < 800 then (n / 2 ^ k :: (rs3 k f (n % 2 ^ k * 10) (w + 1)).1, (rs3 k f (n % 2 ^ k * 10) (w + 1)).2) else ((rs3 k f (n % 2 ^ k * 10) w).1, decide (0 < n / 2 ^ k) || (rs3 k f (n % 2 ^ k * 10) w).2)
/-- A shift to the right by at most 60. -/
def Dec.rsh (a : Dec) (k : Nat) : Dec :=
  let p := rs1 k a.ds 0 0
  let q := rs2 k p.1 p.2.1
  let t := rs3 k (k + 2) q.2 q.1.length
  Dec.trim ⟨q.1 ++ t.1, a.dp - ((p.2.2 : Int) - 1), a.tr || t.2⟩
/-- A shift to the left by at most 60. -/
def Dec.lsh (a : Dec) (k : Nat) : Dec :=
  let l := dgs (val a.ds * 2 ^ k)
  Dec.trim ⟨l.take 800, a.dp + ((l.length : Int) - a.ds.length), a.tr || (l.drop 800).any (· ≠ 0)⟩
/-- A shift to the right by any number. -/
def Dec.rshN (a : Dec) (k : Nat) : Dec := if 60 < k then (a.rsh 60).rshN (k - 60) else a.rsh k
termination_by k
def powtab (i : Nat) : Nat := match i with | 0 => 1 | 1 => 3 | 2 => 6 | 3 => 9 | 4 => 13 | 5 => 16 | 6 => 19 | 7 => 23 | 8 => 26 | _ => 27
def d0 (a : Dec) : Nat := a.ds.headD 0
/-- Down to below one. -/
def fb1 : Nat → Dec → Int → Dec × Int
  | 0, a, e => (a, e)
  | f + 1, a, e => if 0 < a.dp then fb1 f (a.rsh (powtab a.dp.toNat)) (e + powtab a.dp.toNat) else (a, e)
/-- Up to a half at least. -/
def fb2 : Nat → Dec → Int → Dec × Int
  | 0, a, e => (a, e)
  | f + 1, a, e => if a.dp < 0 ∨ (a.dp = 0 ∧ d0 a < 5) then fb2 f (a.lsh (powtab (-a.dp).toNat)) (e - powtab (-a.dp).toNat) else (a, e)
/-- Is to be rounded up, cut at n digits. -/
def upB (a : Dec) (n : Int) : Bool :=
  if n < 0 ∨ (a.ds.length : Int) ≤ n then false
  else
    let i := n.toNat
    if a.ds.getD i 0 = 5 ∧ i + 1 = a.ds.length then a.tr || (decide (0 < i) && decide (a.ds.getD (i - 1) 0 % 2 ≠ 0))
    else decide (5 ≤ a.ds.getD i 0)
/-- The whole part, rounded; modulo 2^64. -/
def rint (a : Dec) : Nat :=
  if 20 < a.dp then 2 ^ 64 - 1
  else ((val (a.ds.take a.dp.toNat) * 10 ^ (a.dp.toNat - a.ds.length)) % 2 ^ 64 + (upB a a.dp).toNat) % 2 ^ 64
/-- The bits of a decimal, and whether it is too great. -/
def fbits (neg : Bool) (a : Dec) : Nat × Bool :=
  let s := if neg then 2 ^ 63 else 0
  if a.ds = [] then (s, false)
  else if 310 < a.dp then (2047 * 2 ^ 52 + s, true)
  else if a.dp < -330 then (s, false)
  else
    let p := fb1 5000 a 0
    let q := fb2 5000 p.1 p.2
    let e := q.2 - 1
    let b := if e < -1022 then (q.1.rshN (-1022 - e).toNat, (-1022 : Int)) else (q.1, e)
    if 2047 ≤ b.2 + 1023 then (2047 * 2 ^ 52 + s, true)
    else
      let m := rint (b.1.lsh 53)
      let c := if m = 2 ^ 53 then (2 ^ 52, b.2 + 1) else (m, b.2)
      if m = 2 ^ 53 ∧ 2047 ≤ b.2 + 1 + 1023 then (2047 * 2 ^ 52 + s, true)
      else
        let ex := if c.1 / 2 ^ 52 % 2 = 0 then -1023 else c.2
        (c.1 % 2 ^ 52 + ((ex + 1023).toNat % 2048) * 2 ^ 52 + s, false)
end PF
/- The slow way's shift to the left: how many digits it brings. No condition. -/
namespace PF
theorem val_foldl (ds : List Nat) (n : Nat) : ds.foldl (fun n d => n * 10 + d) n = n * 10 ^ ds.length + val ds := by
  induction ds generalizing n with
  | nil => simp [val]
  | cons d t ih =>
    simp only [List.foldl_cons, List.length_cons, val]
    rw [ih, ih (0 * 10 + d), Nat.pow_succ]
    simp only [Nat.zero_mul, Nat.zero_add, Nat.add_mul]
    have : n * 10 * 10 ^ t.length = n * (10 ^ t.length * 10) := by rw [Nat.mul_assoc, Nat.mul_comm 10]
    omega
theorem val_cons (d : Nat) (t : List Nat) : val (d :: t) = d * 10 ^ t.length + val t := by
  have := val_foldl t d
  unfold val at *
  simp only [List.foldl_cons, Nat.zero_mul, Nat.zero_add]
  exact this
theorem val_append (a b : List Nat) : val (a ++ b) = val a * 10 ^ b.length + val b := by
  have := val_foldl b (val a)
  unfold val at *
  rw [List.foldl_append]
  exact this
theorem val_lt {ds : List Nat} (h : ∀ d ∈ ds, d ≤ 9) : val ds < 10 ^ ds.length := by
  induction ds with
  | nil => simp [val]
  | cons d t ih =>
    have h1 := ih fun x hx => h x (List.mem_cons_of_mem _ hx)
    have h2 := h d (List.mem_cons_self ..)
    rw [val_cons, List.length_cons, Nat.pow_succ]
    have : d * 10 ^ t.length ≤ 9 * 10 ^ t.length := Nat.mul_le_mul_right _ h2
    omega
theorem val_ge {d : Nat} {t : List Nat} (h : d ≠ 0) : 10 ^ t.length ≤ val (d :: t) := by
  rw [val_cons]
  have : 1 * 10 ^ t.length ≤ d * 10 ^ t.length := Nat.mul_le_mul_right _ (by omega)
  omega
/-- Is the first list less, where the second is laid beside it? -/
def plt : List Nat → List Nat → Bool
  | _, [] => false
  | [], _ :: _ => true
  | b :: bs, s :: ss => if b = s then plt bs ss else decide (b < s)
theorem val_pos : ∀ (s : Nat) (ss : List Nat), (s :: ss).getLast? ≠ some 0 → 0 < val (s :: ss)
  | s, [], h => by simp [val] at *; omega
  | s, a :: t, h => by
    have := val_pos a t (by simpa using h)
    rw [val_cons]
    omega
theorem plt_iff : ∀ (b s : List Nat), (∀ d ∈ b, d ≤ 9) → (∀ d ∈ s, d ≤ 9) → (s ≠ [] → s.getLast? ≠ some 0) → (plt b s = true ↔ val b * 10 ^ s.length < val s * 10 ^ b.length)
  | b, [], hb, _, _ => by
    simp [plt, val]
  | [], s :: ss, _, _, hl => by
    simp only [plt, true_iff, List.length_nil, Nat.pow_zero, Nat.mul_one]
    simp only [val, List.foldl_nil, Nat.zero_mul]
    show 0 < val (s :: ss)
    exact val_pos s ss (hl (by simp))
  | b :: bs, s :: ss, hb, hs, hl => by
    have b1 := val_lt fun x hx => hb x (List.mem_cons_of_mem _ hx)
    have s1 := val_lt fun x hx => hs x (List.mem_cons_of_mem _ hx)
    have hB := Nat.two_pow_pos 1
    rw [val_cons, val_cons, List.length_cons, List.length_cons, Nat.pow_succ, Nat.pow_succ]
    have pB : 0 < 10 ^ bs.length := Nat.pow_pos (by omega)
    have pS : 0 < 10 ^ ss.length := Nat.pow_pos (by omega)
    unfold plt
    by_cases e : b = s
    · subst e
      rw [if_pos rfl]
      have hl' : ss ≠ [] → ss.getLast? ≠ some 0 := by
        intro hne
        have := hl (by simp)
        cases ss with
        | nil => exact absurd rfl hne
        | cons a t => simpa using this
      have ih := plt_iff bs ss (fun x hx => hb x (List.mem_cons_of_mem _ hx)) (fun x hx => hs x (List.mem_cons_of_mem _ hx)) hl'
      rw [ih]
      generalize 10 ^ bs.length = B at *
      generalize 10 ^ ss.length = S at *
      have e1 : (b * B + val bs) * (S * 10) = 10 * (b * B * S + val bs * S) := by rw [Nat.add_mul, Nat.mul_comm S 10, ← Nat.mul_assoc, ← Nat.mul_assoc, Nat.mul_comm (b * B) 10, Nat.mul_comm (val bs) 10, Nat.mul_assoc, Nat.mul_assoc 10 (val bs), ← Nat.mul_add]
      have e2 : (b * S + val ss) * (B * 10) = 10 * (b * S * B + val ss * B) := by rw [Nat.add_mul, Nat.mul_comm B 10, ← Nat.mul_assoc, ← Nat.mul_assoc, Nat.mul_comm (b * S) 10, Nat.mul_comm (val ss) 10, Nat.mul_assoc, Nat.mul_assoc 10 (val ss), ← Nat.mul_add]
      have e3 : b * B * S = b * S * B := by rw [Nat.mul_assoc, Nat.mul_assoc, Nat.mul_comm B S]
      rw [e1, e2, e3]
      constructor <;> intro h <;> omega
    · rw [if_neg e]
      generalize hBv : 10 ^ bs.length = B at *
      generalize hSv : 10 ^ ss.length = S at *
      simp only [decide_eq_true_eq]
      have key (x y X Y u v : Nat) (hxy : x < y) (hu : u < X) (hv : v < Y) : (x * X + u) * (Y * 10) < (y * Y + v) * (X * 10) := by
        have h1 : x * X + u < (x + 1) * X := by rw [Nat.add_mul]; omega
        have h2 : (x * X + u) * (Y * 10) < (x + 1) * X * (Y * 10) := Nat.mul_lt_mul_of_pos_right h1 (by omega)
        have h3 : (x + 1) * X * (Y * 10) ≤ y * X * (Y * 10) := Nat.mul_le_mul_right _ (Nat.mul_le_mul_right _ hxy)
        have h4 : y * X * (Y * 10) = y * Y * (X * 10) := by
          rw [Nat.mul_assoc, Nat.mul_assoc, Nat.mul_left_comm X Y]
        have h5 : y * Y * (X * 10) ≤ (y * Y + v) * (X * 10) := Nat.mul_le_mul_right _ (by omega)
        omega
      constructor
      · intro h
        exact key b s B S (val bs) (val ss) h b1 s1
      · intro h
        by_cases h2 : b < s
        · exact h2
        · have := key s b S B (val ss) (val bs) (by omega) s1 b1
          omega
/-- The number of digits of a product by a power of two. -/
theorem grow_bounds {v L k C K : Nat} (h0 : 10 ^ (L - 1) ≤ v) (h1 : v < 10 ^ L) (hL : 1 ≤ L) (hC : C ≤ k) (hlo : 10 ^ (C - 1) ≤ 5 ^ k) (hhi : 5 ^ k < 10 ^ C) (hC1 : 1 ≤ C)
    (hK : K = L + (k - C + 1) - (if v * 10 ^ C < 5 ^ k * 10 ^ L then 1 else 0)) : 10 ^ (K - 1) ≤ v * 2 ^ k ∧ v * 2 ^ k < 10 ^ K := by
  have e10 : 5 ^ k * 2 ^ k = 10 ^ k := by rw [← Nat.mul_pow]
  have p5 : 0 < 5 ^ k := Nat.pow_pos (by omega)
  have p2 : 0 < 2 ^ k := Nat.pow_pos (by omega)
  split at hK
  · rename_i hp
    have hK : K = L + (k - C) := by omega
    constructor
    · -- v * 2^k ≥ 10^(L-1) * 2^k > 10^(L-1+k-C)
      have a1 : 10 ^ (k - C) * 10 ^ C < 2 ^ k * 10 ^ C := by
        rw [← Nat.pow_add, show k - C + C = k by omega, ← e10, Nat.mul_comm]
        exact Nat.mul_lt_mul_of_pos_left hhi p2
      have a2 : 10 ^ (k - C) < 2 ^ k := Nat.lt_of_mul_lt_mul_right a1
      calc 10 ^ (K - 1) = 10 ^ (L - 1) * 10 ^ (k - C) := by rw [← Nat.pow_add]; congr 1; omega
        _ ≤ v * 2 ^ k := Nat.mul_le_mul h0 (by omega)
    · have a1 : v * 10 ^ C * 2 ^ k < 5 ^ k * 10 ^ L * 2 ^ k := Nat.mul_lt_mul_of_pos_right hp p2
      have a2 : 5 ^ k * 10 ^ L * 2 ^ k = 10 ^ K * 10 ^ C := by
        rw [Nat.mul_right_comm, e10, ← Nat.pow_add, ← Nat.pow_add]; congr 1; omega
      rw [a2, Nat.mul_right_comm] at a1
      exact Nat.lt_of_mul_lt_mul_right a1
  · rename_i hp
    have hK : K = L + (k - C) + 1 := by omega
    constructor
    · have a1 : 5 ^ k * 10 ^ L * 2 ^ k ≤ v * 10 ^ C * 2 ^ k := Nat.mul_le_mul_right _ (by omega)
      have a2 : 5 ^ k * 10 ^ L * 2 ^ k = 10 ^ (K - 1) * 10 ^ C := by
        rw [Nat.mul_right_comm, e10, ← Nat.pow_add, ← Nat.pow_add]; congr 1; omega
      rw [a2, Nat.mul_right_comm] at a1
      exact Nat.le_of_mul_le_mul_right a1 (Nat.pow_pos (by omega))
    · have a1 : 2 ^ k * 10 ^ (C - 1) ≤ 10 ^ (k - C + 1) * 10 ^ (C - 1) := by
        rw [← Nat.pow_add, show k - C + 1 + (C - 1) = k by omega, ← e10, Nat.mul_comm (5 ^ k)]
        exact Nat.mul_le_mul_left _ hlo
      have a2 : 2 ^ k ≤ 10 ^ (k - C + 1) := Nat.le_of_mul_le_mul_right a1 (Nat.pow_pos (by omega))
      calc v * 2 ^ k < 10 ^ L * 2 ^ k := Nat.mul_lt_mul_of_pos_right h1 p2
        _ ≤ 10 ^ L * 10 ^ (k - C + 1) := Nat.mul_le_mul_left _ a2
        _ = 10 ^ K := by rw [← Nat.pow_add]; congr 1; omega
end PF
/- Decimals under shifts: what stays true of them, and that the loops end. No condition. -/
namespace PF
theorem dgs_pos {n : Nat} (h : n ≠ 0) : dgs n = dgs (n / 10) ++ [n % 10] := by rw [dgs, if_neg h]
theorem dgs_zero : dgs 0 = [] := by rw [dgs, if_pos rfl]
theorem dgs_len : ∀ (n : Nat), n ≠ 0 → 10 ^ ((dgs n).length - 1) ≤ n ∧ n < 10 ^ (dgs n).length ∧ 1 ≤ (dgs n).length := by
  intro n
  induction n using Nat.strongRecOn with
  | ind n ih =>
    intro hn
    rw [dgs_pos hn, List.length_append, List.length_singleton, Nat.add_sub_cancel, Nat.pow_succ]
    by_cases h : n / 10 = 0
    · rw [h, dgs_zero]
      simp only [List.length_nil, Nat.pow_zero]
      omega
    · obtain ⟨h1, h2, h3⟩ := ih (n / 10) (by omega) h
      have e : 10 ^ (dgs (n / 10)).length = 10 ^ ((dgs (n / 10)).length - 1) * 10 := by rw [← Nat.pow_succ]; congr 1; omega
      refine ⟨by rw [e]; omega, by omega, by omega⟩
theorem dgs_len_eq {n K : Nat} (hK : 1 ≤ K) (h0 : 10 ^ (K - 1) ≤ n) (h1 : n < 10 ^ K) : (dgs n).length = K := by
  have hn : n ≠ 0 := by have := Nat.pow_pos (n := K - 1) (show 0 < 10 by omega); omega
  obtain ⟨a, b, c⟩ := dgs_len n hn
  have u := (Nat.pow_lt_pow_iff_right (show 1 < 10 by omega)).1 (Nat.lt_of_le_of_lt a h1)
  have v := (Nat.pow_lt_pow_iff_right (show 1 < 10 by omega)).1 (Nat.lt_of_le_of_lt h0 b)
  omega
theorem dgs_get : ∀ (n i : Nat), i < (dgs n).length → (dgs n)[i]? = some (n / 10 ^ ((dgs n).length - 1 - i) % 10) := by
  intro n
  induction n using Nat.strongRecOn with
  | ind n ih =>
    intro i hi
    by_cases hn : n = 0
    · subst hn; rw [dgs_zero] at hi; cases hi
    · have hl : (dgs n).length = (dgs (n / 10)).length + 1 := by rw [dgs_pos hn]; simp
      rw [hl] at hi ⊢
      rw [dgs_pos hn]
      by_cases he : i = (dgs (n / 10)).length
      · subst he
        rw [List.getElem?_append_right (Nat.le_refl _)]
        simp
      · rw [List.getElem?_append_left (by omega), ih (n / 10) (by omega) i (by omega), Nat.div_div_eq_div_mul, ← Nat.pow_succ']
        congr 4
        omega
theorem dgs_le (n : Nat) : ∀ d ∈ dgs n, d ≤ 9 := by
  intro d hd
  obtain ⟨i, hi, e⟩ := List.getElem_of_mem hd
  have := dgs_get n i hi
  rw [List.getElem?_eq_getElem hi, e] at this
  have := Option.some.inj this
  omega
theorem dgs_head {n : Nat} (h : n ≠ 0) : (dgs n).headD 0 = n / 10 ^ ((dgs n).length - 1) := by
  have h3 := dgs_len n h
  have h1 := dgs_get n 0 (by omega)
  have e : (dgs n).headD 0 = ((dgs n)[0]?).getD 0 := by cases dgs n <;> rfl
  rw [e, h1, Nat.sub_zero]
  have : n / 10 ^ ((dgs n).length - 1) < 10 := by
    have e2 : 10 ^ (dgs n).length = 10 * 10 ^ ((dgs n).length - 1) := by rw [← Nat.pow_succ']; congr 1; omega
    rw [Nat.div_lt_iff_lt_mul (Nat.pow_pos (by omega)), ← e2]
    exact h3.2.1
  simp only [Option.getD_some]
  exact Nat.mod_eq_of_lt this
/-- A decimal that is not nought: digits, the first is not nought, room for them. -/
structure Dec.Ok (a : Dec) : Prop where
  len : a.ds.length ≤ 800
  dig : ∀ d ∈ a.ds, d ≤ 9
  one : a.ds.headD 0 ≠ 0
theorem Dec.Ok.ne {a : Dec} (h : a.Ok) : a.ds ≠ [] := by intro e; exact h.one (by rw [e]; rfl)
theorem trimL_prefix (ds : List Nat) : ∃ t, ds = trimL ds ++ t ∧ ∀ x ∈ t, x = 0 := by
  refine ⟨(ds.reverse.takeWhile (· == 0)).reverse, ?_, ?_⟩
  · unfold trimL
    rw [← List.reverse_append, List.takeWhile_append_dropWhile, List.reverse_reverse]
  · intro x hx
    have := List.all_eq_true.1 (List.all_takeWhile (l := ds.reverse)) x (List.mem_reverse.1 hx)
    simpa using this
theorem trimL_head {ds : List Nat} (h : ds.headD 0 ≠ 0) : (trimL ds).headD 0 = ds.headD 0 := by
  obtain ⟨t, e, h0⟩ := trimL_prefix ds
  cases hx : trimL ds with
  | nil =>
    rw [hx, List.nil_append] at e
    subst e
    cases ds with
    | nil => exact absurd rfl h
    | cons a r => exact absurd (h0 a (List.mem_cons_self ..)) (by simpa using h)
  | cons a r =>
    rw [hx] at e
    conv => rhs; rw [e]
    rfl
theorem trim_ok {a : Dec} (h : a.Ok) : a.trim.Ok ∧ d0 a.trim = d0 a ∧ a.trim.dp = a.dp ∧ a.trim.tr = a.tr := by
  obtain ⟨t, e, _⟩ := trimL_prefix a.ds
  have hh := trimL_head h.one
  have hne : trimL a.ds ≠ [] := by intro e0; rw [e0] at hh; exact h.one hh.symm
  refine ⟨⟨?_, ?_, ?_⟩, hh, by unfold Dec.trim; rw [if_neg hne], rfl⟩
  · have := congrArg List.length e
    rw [List.length_append] at this
    have := h.len
    show (trimL a.ds).length ≤ 800
    omega
  · intro d hd
    exact h.dig d (by rw [e]; exact List.mem_append_left _ hd)
  · show (trimL a.ds).headD 0 ≠ 0
    rw [hh]; exact h.one
theorem Dec.Ok.val {a : Dec} (h : a.Ok) : 10 ^ (a.ds.length - 1) ≤ val a.ds ∧ val a.ds < 10 ^ a.ds.length ∧ 1 ≤ a.ds.length ∧ val a.ds ≠ 0 := by
  have h2 := val_lt h.dig
  have h1 := h.one
  revert h1 h2
  cases a.ds with
  | nil => intro _ h1; exact absurd rfl h1
  | cons d t =>
    intro h2 h1
    have h3 := val_ge (d := d) (t := t) (by simpa using h1)
    have := Nat.pow_pos (n := t.length) (show 0 < 10 by omega)
    exact ⟨by simpa using h3, h2, by simp, by omega⟩
theorem Dec.Ok.d0 {a : Dec} (h : a.Ok) : d0 a = PF.val a.ds / 10 ^ (a.ds.length - 1) ∧ 1 ≤ d0 a ∧ d0 a ≤ 9 := by
  unfold PF.d0
  have h1 := h.one
  have hd := h.dig
  revert h1 hd
  cases a.ds with
  | nil => intro h1; exact absurd rfl h1
  | cons d t =>
    intro h1 hd
    have ht := val_lt fun x hx => hd x (List.mem_cons_of_mem _ hx)
    refine ⟨?_, by have : d ≠ 0 := by simpa using h1
                   simp; omega, hd d (List.mem_cons_self ..)⟩
    rw [val_cons]
    simp only [List.headD_cons, List.length_cons, Nat.add_sub_cancel]
    rw [Nat.mul_comm, Nat.mul_add_div (Nat.pow_pos (by omega)), Nat.div_eq_of_lt ht, Nat.add_zero]
/-- To the left: what is made, before it is trimmed. -/
theorem lsh_ok {a : Dec} (h : a.Ok) (k : Nat) : (Dec.lsh a k).Ok ∧ d0 (a.lsh k) = val a.ds * 2 ^ k / 10 ^ ((dgs (val a.ds * 2 ^ k)).length - 1) ∧ (a.lsh k).dp = a.dp + (((dgs (val a.ds * 2 ^ k)).length : Int) - a.ds.length) := by
  obtain ⟨v1, v2, v3, v4⟩ := h.val
  have hn : val a.ds * 2 ^ k ≠ 0 := Nat.mul_ne_zero v4 (Nat.ne_of_gt (Nat.two_pow_pos _))
  have hh := dgs_head hn
  obtain ⟨l1, l2, l3⟩ := dgs_len _ hn
  have hp : 1 ≤ val a.ds * 2 ^ k / 10 ^ ((dgs (val a.ds * 2 ^ k)).length - 1) := (Nat.le_div_iff_mul_le (Nat.pow_pos (by omega))).2 (by omega)
  have ht : ((dgs (val a.ds * 2 ^ k)).take 800).headD 0 = (dgs (val a.ds * 2 ^ k)).headD 0 := by cases dgs (val a.ds * 2 ^ k) <;> rfl
  have ok : (Dec.mk ((dgs (val a.ds * 2 ^ k)).take 800) (a.dp + (((dgs (val a.ds * 2 ^ k)).length : Int) - a.ds.length)) (a.tr || ((dgs (val a.ds * 2 ^ k)).drop 800).any (· ≠ 0))).Ok := by
    refine ⟨by simp; omega, fun d hd => dgs_le _ d (List.mem_of_mem_take hd), ?_⟩
    show ((dgs (val a.ds * 2 ^ k)).take 800).headD 0 ≠ 0
    rw [ht, hh]; omega
  obtain ⟨o1, o2, o3, _⟩ := trim_ok ok
  refine ⟨o1, ?_, o3⟩
  have : d0 (a.lsh k) = ((dgs (val a.ds * 2 ^ k)).take 800).headD 0 := o2
  rw [this, ht, hh]
def muL (a : Dec) : Nat := 10 * (-a.dp).toNat + (9 - d0 a)
theorem powtab_lt (m : Nat) (h : 1 ≤ m) : 2 ^ powtab m < 10 ^ m ∧ 3 ≤ powtab m ∧ powtab m ≤ 27 := by
  by_cases h9 : m ≤ 8
  · have : m = 1 ∨ m = 2 ∨ m = 3 ∨ m = 4 ∨ m = 5 ∨ m = 6 ∨ m = 7 ∨ m = 8 := by omega
    rcases this with rfl | rfl | rfl | rfl | rfl | rfl | rfl | rfl <;> decide
  · have e : powtab m = 27 := by
      unfold powtab
      split <;> first | rfl | omega
    rw [e]
    refine ⟨Nat.lt_of_lt_of_le (show 2 ^ 27 < 10 ^ 9 by decide) (Nat.pow_le_pow_right (by omega) (by omega)), by omega, by omega⟩
theorem lsh_mu {a : Dec} (h : a.Ok) (hd : a.dp ≤ 0) (hc : a.dp < 0 ∨ (a.dp = 0 ∧ d0 a < 5)) : (a.lsh (powtab (-a.dp).toNat)).dp ≤ 0 ∧ muL (a.lsh (powtab (-a.dp).toNat)) < muL a := by
  obtain ⟨v1, v2, v3, v4⟩ := h.val
  obtain ⟨e1, e2, e3⟩ := h.d0
  obtain ⟨k, hk⟩ : ∃ k, powtab (-a.dp).toNat = k := ⟨_, rfl⟩
  rw [hk]
  obtain ⟨o1, o2, o3⟩ := lsh_ok h k
  have hn : val a.ds * 2 ^ k ≠ 0 := Nat.mul_ne_zero v4 (Nat.ne_of_gt (Nat.two_pow_pos _))
  obtain ⟨l1, l2, l3⟩ := dgs_len _ hn
  obtain ⟨f1, f2, f3⟩ := o1.d0
  obtain ⟨K, hK⟩ : ∃ K, (dgs (val a.ds * 2 ^ k)).length = K := ⟨_, rfl⟩
  rw [hK] at o2 o3 l1 l2 l3
  have k1 : 1 ≤ k := by
    by_cases hm : (-a.dp).toNat = 0
    · rw [hm] at hk; rw [← hk]; decide
    · have := powtab_lt (-a.dp).toNat (by omega)
      omega
  have p2 : 2 ≤ 2 ^ k := Nat.le_trans (show 2 ≤ 2 ^ 1 by decide) (Nat.pow_le_pow_right (by omega) k1)
  have hge : val a.ds ≤ val a.ds * 2 ^ k := Nat.le_mul_of_pos_right _ (by omega)
  have hLK : a.ds.length ≤ K := by
    have := (Nat.pow_lt_pow_iff_right (show 1 < 10 by omega)).1 (Nat.lt_of_le_of_lt (Nat.le_trans v1 hge) l2)
    omega
  have hKL : (K : Int) - a.ds.length ≤ -a.dp := by
    rcases hc with hc | ⟨hc, h5⟩
    · have hm := powtab_lt (-a.dp).toNat (by omega)
      rw [hk] at hm
      have : val a.ds * 2 ^ k < 10 ^ (a.ds.length + (-a.dp).toNat) := by
        rw [Nat.pow_add]
        exact Nat.lt_of_lt_of_le (Nat.mul_lt_mul_of_pos_right v2 (by omega)) (Nat.mul_le_mul_left _ (by omega))
      have := (Nat.pow_lt_pow_iff_right (show 1 < 10 by omega)).1 (Nat.lt_of_le_of_lt l1 this)
      omega
    · have hk1 : k = 1 := by rw [← hk, hc]; rfl
      have : val a.ds < 5 * 10 ^ (a.ds.length - 1) := by
        have hp := Nat.pow_pos (n := a.ds.length - 1) (show 0 < 10 by omega)
        rw [e1] at h5
        exact (Nat.div_lt_iff_lt_mul hp).1 h5
      have h10 : 10 ^ a.ds.length = 10 ^ (a.ds.length - 1) * 10 := by rw [← Nat.pow_succ]; congr 1; omega
      have : val a.ds * 2 ^ k < 10 ^ a.ds.length := by rw [hk1, h10]; omega
      have := (Nat.pow_lt_pow_iff_right (show 1 < 10 by omega)).1 (Nat.lt_of_le_of_lt l1 this)
      omega
  refine ⟨by rw [o3]; omega, ?_⟩
  unfold muL
  rw [o3]
  by_cases hE : K = a.ds.length
  · have : d0 a < d0 (a.lsh k) := by
      rw [o2, hE]
      have hp := Nat.pow_pos (n := a.ds.length - 1) (show 0 < 10 by omega)
      have : d0 a * 10 ^ (a.ds.length - 1) ≤ val a.ds := by rw [e1]; exact Nat.div_mul_le_self _ _
      refine (Nat.le_div_iff_mul_le hp).2 ?_
      have h2 : val a.ds * 2 ≤ val a.ds * 2 ^ k := Nat.mul_le_mul_left _ p2
      have h3 : (d0 a + 1) * 10 ^ (a.ds.length - 1) ≤ (d0 a * 10 ^ (a.ds.length - 1)) * 2 := by
        rw [Nat.mul_right_comm]
        exact Nat.mul_le_mul_right _ (by omega)
      exact Nat.le_trans h3 (Nat.le_trans (Nat.mul_le_mul_right 2 this) h2)
    omega
  · omega
end PF
/- Decimals under shifts to the right: what stays true of them, and that the loops end. No condition. -/
namespace PF
/-- What the first digits of a shift to the right come to. -/
structure Rs1 (k n r : Nat) : Prop where
  lo : 2 ^ k ≤ n
  hi : n < 10 * 2 ^ k
  r1 : 1 ≤ r
  few : r ≤ 1 ∨ 10 ^ (r - 2) < 2 ^ k
theorem rsz_spec (k : Nat) : ∀ (f n r : Nat), 1 ≤ r → 10 ^ (r - 1) ≤ n → n < 10 * 2 ^ k → 2 ^ k ≤ n * 10 ^ f → (r ≤ 1 ∨ 10 ^ (r - 2) < 2 ^ k) → Rs1 k (rsz k f n r).1 (rsz k f n r).2 ∧ r ≤ (rsz k f n r).2 ∧ ((rsz k f n r).2 = r → (rsz k f n r).1 = n)
  | 0, n, r, h1, h2, h3, h4, h5 => by
    unfold rsz
    exact ⟨⟨by simpa using h4, h3, h1, h5⟩, Nat.le_refl _, fun _ => rfl⟩
  | f + 1, n, r, h1, h2, h3, h4, h5 => by
    have p2 := Nat.two_pow_pos k
    unfold rsz
    by_cases h : n / 2 ^ k = 0
    · rw [if_pos h]
      have hn : n < 2 ^ k := by
        rcases Nat.div_eq_zero_iff.1 h with h | h
        · omega
        · exact h
      have e : 10 ^ (r + 1 - 1) = 10 ^ (r - 1) * 10 := by rw [← Nat.pow_succ]; congr 1; omega
      obtain ⟨a, b, c⟩ := rsz_spec k f (n * 10) (r + 1) (by omega) (by rw [e]; omega) (by omega) (by rw [Nat.mul_assoc, ← Nat.pow_succ']; exact h4) (.inr (by rw [show r + 1 - 2 = r - 1 by omega]; omega))
      exact ⟨a, by omega, fun h => by omega⟩
    · rw [if_neg h]
      have hn : 2 ^ k ≤ n := by
        have : 1 ≤ n / 2 ^ k := Nat.pos_of_ne_zero h
        have := (Nat.le_div_iff_mul_le p2).1 this
        omega
      exact ⟨⟨hn, h3, h1, h5⟩, Nat.le_refl _, fun _ => rfl⟩
theorem two_le_ten (k : Nat) : 2 ^ k ≤ 10 ^ k := Nat.pow_le_pow_left (by omega) k
theorem rs1_spec (k : Nat) : ∀ (t : List Nat) (n r : Nat), (∀ d ∈ t, d ≤ 9) → 1 ≤ r → 10 ^ (r - 1) ≤ n → n < 10 * 2 ^ k → (r ≤ 1 ∨ 10 ^ (r - 2) < 2 ^ k) → Rs1 k (rs1 k t n r).2.1 (rs1 k t n r).2.2 ∧ r ≤ (rs1 k t n r).2.2 ∧ ((rs1 k t n r).2.2 = r → (rs1 k t n r).2.1 = n) ∧ (rs1 k t n r).1 = t.drop ((rs1 k t n r).2.2 - r)
  | [], n, r, _, h1, h2, h3, h5 => by
    unfold rs1
    have p1 := Nat.pow_pos (n := r - 1) (show 0 < 10 by omega)
    have h4 : 2 ^ k ≤ n * 10 ^ (k + 1) := by
      have a := two_le_ten k
      have b : 1 * 10 ^ (k + 1) ≤ n * 10 ^ (k + 1) := Nat.mul_le_mul_right _ (by omega)
      rw [Nat.pow_succ] at b ⊢
      omega
    obtain ⟨a, b, c⟩ := rsz_spec k (k + 1) n r h1 h2 h3 h4 h5
    exact ⟨a, b, c, by simp⟩
  | d :: t, n, r, hd, h1, h2, h3, h5 => by
    have p2 := Nat.two_pow_pos k
    unfold rs1
    by_cases h : n / 2 ^ k = 0
    · rw [if_pos h]
      have hn : n < 2 ^ k := by
        rcases Nat.div_eq_zero_iff.1 h with h | h
        · omega
        · exact h
      have hd9 := hd d (List.mem_cons_self ..)
      have e : 10 ^ (r + 1 - 1) = 10 ^ (r - 1) * 10 := by rw [← Nat.pow_succ]; congr 1; omega
      obtain ⟨a, b, c, dd⟩ := rs1_spec k t (n * 10 + d) (r + 1) (fun x hx => hd x (List.mem_cons_of_mem _ hx)) (by omega) (by rw [e]; omega) (by omega) (.inr (by rw [show r + 1 - 2 = r - 1 by omega]; omega))
      refine ⟨a, by omega, fun h => by omega, ?_⟩
      rw [dd, show (rs1 k t (n * 10 + d) (r + 1)).2.2 - r = (rs1 k t (n * 10 + d) (r + 1)).2.2 - (r + 1) + 1 by omega, List.drop_succ_cons]
    · rw [if_neg h]
      have hn : 2 ^ k ≤ n := by
        have : 1 ≤ n / 2 ^ k := Nat.pos_of_ne_zero h
        have := (Nat.le_div_iff_mul_le p2).1 this
        omega
      exact ⟨⟨hn, h3, h1, h5⟩, Nat.le_refl _, fun _ => rfl, by simp⟩
theorem rs1_ok {a : Dec} (h : a.Ok) (k : Nat) : Rs1 k (rs1 k a.ds 0 0).2.1 (rs1 k a.ds 0 0).2.2 ∧ ((rs1 k a.ds 0 0).2.2 = 1 → (rs1 k a.ds 0 0).2.1 = d0 a) ∧ (rs1 k a.ds 0 0).1 = a.ds.drop (rs1 k a.ds 0 0).2.2 := by
  have h1 := h.one
  have hd := h.dig
  unfold d0
  revert h1 hd
  cases a.ds with
  | nil => intro h1; exact absurd rfl h1
  | cons d t =>
    intro h1 hd
    have hd9 := hd d (List.mem_cons_self ..)
    have h1' : d ≠ 0 := by simpa using h1
    have p2 := Nat.two_pow_pos k
    unfold rs1
    rw [Nat.zero_div, if_pos rfl, Nat.zero_mul, Nat.zero_add, Nat.zero_add]
    obtain ⟨x, y, z, u⟩ := rs1_spec k t d 1 (fun x hx => hd x (List.mem_cons_of_mem _ hx)) (Nat.le_refl _) (by simp; omega) (by omega) (.inl (Nat.le_refl _))
    refine ⟨x, fun e => by rw [z e]; rfl, ?_⟩
    rw [u]
    conv => rhs; rw [show (rs1 k t d 1).2.2 = (rs1 k t d 1).2.2 - 1 + 1 by omega]
    rw [List.drop_succ_cons]
theorem step_lt {k n c : Nat} (hc : c ≤ 9) : n % 2 ^ k * 10 + c < 10 * 2 ^ k := by
  have := Nat.mod_lt n (Nat.two_pow_pos k)
  omega
theorem dig_le9 {k n : Nat} (h : n < 10 * 2 ^ k) : n / 2 ^ k ≤ 9 := by
  have := (Nat.div_lt_iff_lt_mul (Nat.two_pow_pos k)).2 h
  omega
theorem rs2_spec (k : Nat) : ∀ (t : List Nat) (n : Nat), (∀ d ∈ t, d ≤ 9) → n < 10 * 2 ^ k → (rs2 k t n).2 < 10 * 2 ^ k ∧ (rs2 k t n).1.length = t.length ∧ (∀ d ∈ (rs2 k t n).1, d ≤ 9) ∧ (t = [] → (rs2 k t n).2 = n) ∧ (t ≠ [] → (rs2 k t n).1.headD 0 = n / 2 ^ k)
  | [], n, _, h => by
    unfold rs2
    exact ⟨h, rfl, (fun d hd => by cases hd), fun _ => rfl, fun h => absurd rfl h⟩
  | c :: t, n, hd, h => by
    unfold rs2
    obtain ⟨x, y, z, _, _⟩ := rs2_spec k t (n % 2 ^ k * 10 + c) (fun x hx => hd x (List.mem_cons_of_mem _ hx)) (step_lt (hd c (List.mem_cons_self ..)))
    refine ⟨x, by simp [y], ?_, (fun h => by cases h), fun _ => rfl⟩
    intro d hd
    rcases List.mem_cons.1 hd with rfl | hd
    · exact dig_le9 h
    · exact z d hd
theorem rs3_spec (k : Nat) : ∀ (f n w : Nat), n < 10 * 2 ^ k → w ≤ 800 → w + (rs3 k f n w).1.length ≤ 800 ∧ (∀ d ∈ (rs3 k f n w).1, d ≤ 9) ∧ (1 ≤ f → 2 ^ k ≤ n → w < 800 → (rs3 k f n w).1.headD 0 = n / 2 ^ k)
  | 0, n, w, h, hw => by
    unfold rs3
    exact ⟨by simpa using hw, (fun d hd => by cases hd), fun h => by omega⟩
  | f + 1, n, w, h, hw => by
    unfold rs3
    have hp := Nat.two_pow_pos k
    have hs := step_lt (k := k) (n := n) (c := 0) (by omega)
    by_cases hn : n = 0
    · rw [if_pos hn]
      exact ⟨by simpa using hw, (fun d hd => by cases hd), fun _ h => by omega⟩
    · rw [if_neg hn]
      by_cases hw8 : w < 800
      · rw [if_pos hw8]
        obtain ⟨x, y, _⟩ := rs3_spec k f (n % 2 ^ k * 10) (w + 1) hs hw8
        refine ⟨by simp; omega, ?_, fun _ _ _ => rfl⟩
        intro d hd
        rcases List.mem_cons.1 hd with rfl | hd
        · exact dig_le9 h
        · exact y d hd
      · rw [if_neg hw8]
        obtain ⟨x, y, _⟩ := rs3_spec k f (n % 2 ^ k * 10) w hs hw
        exact ⟨x, y, fun _ _ h => by omega⟩
/-- The fuel of what is left is enough. -/
def Fu (k f n : Nat) : Prop := n = 0 ∨ ∃ j, j ≤ k ∧ 2 ^ j ∣ n ∧ k + 1 ≤ j + f
theorem Fu.start (k n : Nat) : Fu k (k + 2) n := .inr ⟨0, by omega, by simp, by omega⟩
theorem Fu.pos {k f n : Nat} (h : Fu k f n) (hn : n ≠ 0) : ∃ g, f = g + 1 ∧ Fu k g (n % 2 ^ k * 10) := by
  rcases h with h | ⟨j, h1, h2, h3⟩
  · exact absurd h hn
  · refine ⟨f - 1, by omega, ?_⟩
    by_cases hj : j = k
    · subst hj
      left
      rw [Nat.mod_eq_zero_of_dvd h2]
    · right
      refine ⟨j + 1, by omega, ?_, by omega⟩
      have h4 : 2 ^ j ∣ n % 2 ^ k := (Nat.dvd_mod_iff (Nat.pow_dvd_pow 2 h1)).2 h2
      have : 2 ^ (j + 1) = 2 ^ j * 2 := Nat.pow_succ ..
      rw [this]
      exact Nat.mul_dvd_mul h4 ⟨5, rfl⟩
/-- Before the trim. -/
def Dec.rsh0 (a : Dec) (k : Nat) : Dec :=
  let p := rs1 k a.ds 0 0
  let q := rs2 k p.1 p.2.1
  let t := rs3 k (k + 2) q.2 q.1.length
  ⟨q.1 ++ t.1, a.dp - ((p.2.2 : Int) - 1), a.tr || t.2⟩
theorem rsh_eq (a : Dec) (k : Nat) : a.rsh k = (a.rsh0 k).trim := rfl
theorem headD_append {a b : List Nat} (h : a ≠ []) : (a ++ b).headD 0 = a.headD 0 := by
  cases a with
  | nil => exact absurd rfl h
  | cons x t => rfl
theorem rsh0_ok {a : Dec} (h : a.Ok) (k : Nat) : (a.rsh0 k).Ok ∧ d0 (a.rsh0 k) = (rs1 k a.ds 0 0).2.1 / 2 ^ k := by
  obtain ⟨p, _, hdrop⟩ := rs1_ok h k
  have hdg : ∀ d ∈ (rs1 k a.ds 0 0).1, d ≤ 9 := by rw [hdrop]; exact fun d hd => h.dig d (List.mem_of_mem_drop hd)
  have hl : (rs1 k a.ds 0 0).1.length ≤ 799 := by
    rw [hdrop, List.length_drop]; have := h.len; have := p.r1; omega
  obtain ⟨q1, q2, q3, q4, q5⟩ := rs2_spec k _ _ hdg p.hi
  obtain ⟨t1, t2, t3⟩ := rs3_spec k (k + 2) _ (rs2 k (rs1 k a.ds 0 0).1 (rs1 k a.ds 0 0).2.1).1.length q1 (by omega)
  have hh : d0 (a.rsh0 k) = (rs1 k a.ds 0 0).2.1 / 2 ^ k := by
    show ((rs2 k (rs1 k a.ds 0 0).1 (rs1 k a.ds 0 0).2.1).1 ++ _).headD 0 = _
    by_cases he : (rs1 k a.ds 0 0).1 = []
    · have e1 : (rs2 k (rs1 k a.ds 0 0).1 (rs1 k a.ds 0 0).2.1).1 = [] := List.eq_nil_of_length_eq_zero (by rw [q2, he]; rfl)
      rw [e1, List.nil_append]
      have := t3 (by omega) (by rw [q4 he]; exact p.lo) (by omega)
      rw [e1] at this
      rw [this, q4 he]
    · rw [headD_append, q5 he]
      intro e
      rw [e] at q2
      exact he (List.eq_nil_of_length_eq_zero q2.symm)
  refine ⟨⟨?_, ?_, ?_⟩, hh⟩
  · show ((rs2 k (rs1 k a.ds 0 0).1 (rs1 k a.ds 0 0).2.1).1 ++ (rs3 k (k + 2) (rs2 k (rs1 k a.ds 0 0).1 (rs1 k a.ds 0 0).2.1).2 (rs2 k (rs1 k a.ds 0 0).1 (rs1 k a.ds 0 0).2.1).1.length).1).length ≤ 800
    rw [List.length_append]; exact t1
  · intro d hd
    rcases List.mem_append.1 hd with hd | hd
    · exact q3 d hd
    · exact t2 d hd
  · have e : d0 (a.rsh0 k) = (a.rsh0 k).ds.headD 0 := rfl
    rw [← e, hh]
    have := (Nat.le_div_iff_mul_le (Nat.two_pow_pos k)).2 (show 1 * 2 ^ k ≤ _ by rw [Nat.one_mul]; exact p.lo)
    omega
theorem rsh_ok {a : Dec} (h : a.Ok) (k : Nat) : (a.rsh k).Ok ∧ d0 (a.rsh k) = (rs1 k a.ds 0 0).2.1 / 2 ^ k ∧ (a.rsh k).dp = a.dp - (((rs1 k a.ds 0 0).2.2 : Int) - 1) := by
  obtain ⟨o, e⟩ := rsh0_ok h k
  obtain ⟨x, y, z, _⟩ := trim_ok o
  rw [rsh_eq]
  exact ⟨x, by rw [y, e], z⟩
def muR (a : Dec) : Nat := 10 * a.dp.toNat + d0 a
theorem rsh_mu {a : Dec} (h : a.Ok) (hd : 0 < a.dp) : 0 ≤ (a.rsh (powtab a.dp.toNat)).dp ∧ muR (a.rsh (powtab a.dp.toNat)) < muR a := by
  obtain ⟨o, e1, e2⟩ := rsh_ok h (powtab a.dp.toNat)
  obtain ⟨p, p1, _⟩ := rs1_ok h (powtab a.dp.toNat)
  obtain ⟨t1, t2, t3⟩ := powtab_lt a.dp.toNat (by omega)
  obtain ⟨f1, f2, f3⟩ := o.d0
  obtain ⟨g1, g2, g3⟩ := h.d0
  generalize powtab a.dp.toNat = k at *
  obtain ⟨r, hr⟩ : ∃ r, (rs1 k a.ds 0 0).2.2 = r := ⟨_, rfl⟩
  obtain ⟨n, hn⟩ : ∃ n, (rs1 k a.ds 0 0).2.1 = n := ⟨_, rfl⟩
  rw [hr] at p p1 e2
  rw [hn] at p p1 e1
  have r1 := p.r1
  have hr2 : (r : Int) - 1 ≤ a.dp := by
    rcases p.few with h | h
    · omega
    · have := (Nat.pow_lt_pow_iff_right (show 1 < 10 by omega)).1 (Nat.lt_trans h t1)
      omega
  refine ⟨by omega, ?_⟩
  unfold muR
  rw [e2]
  by_cases h1 : r = 1
  · have hn1 := p1 h1
    have : d0 (a.rsh k) < d0 a := by
      rw [e1, hn1]
      have h8 : 2 ^ 3 ≤ 2 ^ k := Nat.pow_le_pow_right (by omega) t2
      have : d0 a / 2 ^ k ≤ d0 a / 2 ^ 3 := Nat.div_le_div_left h8 (by omega)
      omega
    omega
  · omega
theorem rshN_ok : ∀ (k : Nat) {a : Dec}, a.Ok → (a.rshN k).Ok := by
  intro k
  induction k using Nat.strongRecOn with
  | ind k ih =>
    intro a h
    unfold Dec.rshN
    split
    · exact ih (k - 60) (by omega) (rsh_ok h 60).1
    · exact (rsh_ok h k).1
end PF
/- A shift to the left, digit by digit from behind. No condition. -/
namespace PF
/-- What is carried behind j digits. -/
def nJ (ds : List Nat) (k j : Nat) : Nat := val (ds.drop (ds.length - j)) * 2 ^ k / 10 ^ j
theorem nJ_zero (ds : List Nat) (k : Nat) : nJ ds k 0 = 0 := by
  unfold nJ
  rw [Nat.sub_zero, List.drop_length]
  simp [val]
theorem nJ_full (ds : List Nat) (k : Nat) : nJ ds k ds.length = val ds * 2 ^ k / 10 ^ ds.length := by
  unfold nJ
  rw [Nat.sub_self, List.drop_zero]
theorem nJ_lt {ds : List Nat} (hd : ∀ d ∈ ds, d ≤ 9) (k : Nat) {j : Nat} (hj : j ≤ ds.length) : nJ ds k j < 2 ^ k := by
  unfold nJ
  have h := val_lt (ds := ds.drop (ds.length - j)) fun d h => hd d (List.mem_of_mem_drop h)
  rw [List.length_drop, show ds.length - (ds.length - j) = j by omega] at h
  rw [Nat.div_lt_iff_lt_mul (Nat.pow_pos (by omega)), Nat.mul_comm]
  exact Nat.mul_lt_mul_of_pos_left h (Nat.two_pow_pos k)
theorem nJ_step {ds : List Nat} (k : Nat) {j : Nat} (hj : j < ds.length) : (nJ ds k j + ds.getD (ds.length - 1 - j) 0 * 2 ^ k) / 10 = nJ ds k (j + 1) ∧ (nJ ds k j + ds.getD (ds.length - 1 - j) 0 * 2 ^ k) % 10 = val ds * 2 ^ k / 10 ^ j % 10 := by
  have p10 : 0 < 10 ^ j := Nat.pow_pos (by omega)
  have hi : ds.length - (j + 1) < ds.length := by omega
  have e1 : ds.drop (ds.length - (j + 1)) = ds.getD (ds.length - 1 - j) 0 :: ds.drop (ds.length - j) := by
    rw [List.drop_eq_getElem_cons hi, show ds.length - (j + 1) + 1 = ds.length - j by omega]
    congr 1
    rw [List.getD_eq_getElem?_getD, List.getElem?_eq_getElem (by omega), Option.getD_some]
    congr 1
    omega
  have e2 : (ds.drop (ds.length - j)).length = j := by rw [List.length_drop]; omega
  have e3 : val (ds.drop (ds.length - (j + 1))) = ds.getD (ds.length - 1 - j) 0 * 10 ^ j + val (ds.drop (ds.length - j)) := by rw [e1, val_cons, e2]
  have e4 : val ds = val (ds.take (ds.length - (j + 1))) * 10 ^ (j + 1) + val (ds.drop (ds.length - (j + 1))) := by
    conv => lhs; rw [← List.take_append_drop (ds.length - (j + 1)) ds]
    rw [val_append, List.length_drop, show ds.length - (ds.length - (j + 1)) = j + 1 by omega]
  have e5 : nJ ds k j + ds.getD (ds.length - 1 - j) 0 * 2 ^ k = val (ds.drop (ds.length - (j + 1))) * 2 ^ k / 10 ^ j := by
    unfold nJ
    rw [e3, Nat.add_mul, Nat.mul_right_comm, Nat.add_comm (_ * 10 ^ j), Nat.add_mul_div_right _ _ p10]
  rw [e5]
  constructor
  · unfold nJ
    rw [Nat.div_div_eq_div_mul, ← Nat.pow_succ]
  · rw [e4, Nat.add_mul]
    generalize val (ds.take (ds.length - (j + 1))) = A
    generalize val (ds.drop (ds.length - (j + 1))) = B
    have : A * 10 ^ (j + 1) * 2 ^ k = 10 * (A * 2 ^ k) * 10 ^ j := by
      rw [Nat.pow_succ]
      simp only [Nat.mul_assoc, Nat.mul_left_comm, Nat.mul_comm]
    rw [this, Nat.add_comm, Nat.add_mul_div_right _ _ p10, Nat.add_mul_mod_self_left]
/-- The places that are written, from behind: where they lie among the digits. -/
theorem dgs_at {V K p : Nat} (hK : (dgs V).length = K) (hp : p < K) : (dgs V)[p]? = some (V / 10 ^ (K - 1 - p) % 10) := by
  have := dgs_get V p (by omega)
  rw [hK] at this
  exact this
theorem any_drop_step {l : List Nat} {m : Nat} (hm : m < l.length) : (l.drop m).any (· ≠ 0) = (decide (l[m] ≠ 0) || (l.drop (m + 1)).any (· ≠ 0)) := by
  rw [List.drop_eq_getElem_cons hm, List.any_cons]
end PF
