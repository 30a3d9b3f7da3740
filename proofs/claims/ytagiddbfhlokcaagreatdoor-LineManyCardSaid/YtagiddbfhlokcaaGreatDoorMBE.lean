/- Several texts of this proof, laid together. Conditions: as each says. -/
import Derived.Test.YtagiddbfhlokcaaGreatDoorMAM
import Derived.Laws.IdiomStrings
import Derived.Lib.BufferRead
import Derived.Test.YtagiddbfhlokcaaGreatDoorMBB
import Derived.Test.YtagiddbfhlokcaaGreatDoorMAA
/- The other package's in and unquoted. Condition: the text's length. -/
namespace Go.Proofs.YtagiddbfhlokcaaGreatDoor
open Go.RowKit
set_option maxRecDepth 100000
theorem in51 (L : List (List UInt8)) (l : List UInt8) (g : Nat) (w : World) (hL : ∀ k (h : k < L.length), w.cell? ⟨g, k, none⟩ = some (.string (bs L[k]))) (hn : L.length ≤ 1000) :
    Calls Tryz.prog 51 #[.slice (some ⟨g, 0, none⟩) L.length L.length, .string (bs l)] w fun e w' => e = .returned (.bool (decide (l ∈ L))) ∧ w = w' := by
  obtain ⟨b, hb⟩ : ∃ b, decide (l ∈ L) = b := ⟨_, rfl⟩
  rw [hb]
  have HL := Lib.hid hL
  clear hL
  obtain ⟨n, hnn⟩ : ∃ n, L.length = n := ⟨_, rfl⟩
  have HN := Lib.hid hnn
  rw [hnn] at hn ⊢
  clear hnn
  go_enter Tryz.func51, Tryz.ntmps51
  go_wp2
  go_loopw [8] (fun v wr => ∃ k : Nat, v = .int .i64 (k : Int) ∧ k ≤ n ∧ decide (l ∈ L.drop k) = b ∧ w = wr) (fun v _ => match v with | .int _ k => n - k.toNat | _ => 0)
  case atStart => exact ⟨0, rfl, by omega, hb, rfl⟩
  case round =>
    obtain ⟨k, rfl, hk, hkk, rfl⟩ := hrel
    have HKK := Lib.hid hkk
    clear hkk
    by_cases hkn : k < n
    · have hkz : (k : Int) < (n : Int) := by omega
      have hkL : k < L.length := by rw [HN.out]; exact hkn
      have c0 := HL.out k hkL
      have hd := List.drop_eq_getElem_cons hkL
      obtain ⟨u, hu⟩ : ∃ u, L[k] = u := ⟨_, rfl⟩
      rw [hu] at c0 hd
      have HD := Lib.hid hd
      clear hd hu hkL
      by_cases hul : u = l
      · have ht : ((bs u).toList == (bs l).toList) = true := by rw [hul]; simp
        obtain rfl : true = b := by rw [← HKK.out, HD.out, hul]; simp
        clear hul
        go_wp2_with fail
        go_ret
        exact ⟨rfl, rfl⟩
      · have ht : ((bs u).toList == (bs l).toList) = false := by rw [bs_toList, bs_toList, beq_eq_false_iff_ne]; exact hul
        have HK2 : Hid (decide (l ∈ L.drop (k + 1)) = b) := Lib.hid (by rw [← HKK.out, HD.out]; simp [Ne.symm hul])
        clear hul
        go_wp2_with fail
        go_roundw
        case rel => exact ⟨k + 1, rfl, by omega, HK2.out, trivial⟩
        case measure => simp; omega
    · have hkz : ¬((k : Int) < (n : Int)) := by omega
      obtain rfl : false = b := by rw [← HKK.out, List.drop_of_length_le (by rw [HN.out]; omega)]; simp
      go_wp2_with fail
      go_ret
      exact ⟨rfl, rfl⟩
theorem info5c : (Tryz.prog.info? 5).map (fun i => (i.zero, i.size, i.bytes)) = some (some (.int .u8 0), 1, 1) := by kernel_rfl
theorem one_cell (w : World) (v : Value) : ∀ j u, [v][j]? = some u → (w.alloc (.cells #[v] 5 (0, 0))).cell? ((⟨w.heap.size, 0, none⟩ : Addr).add j) = some u := by
  intro j u hj
  match j, hj with
  | 0, hj => simp at hj; subst hj; simp [Addr.add]
theorem conv_bytes {w : World} {B : Nat} {v : Value} {l : List UInt8} (h : w.ownsRow B 5 1 v l.length (Lib.byteCells l)) : (convert 59 9 v).run Tryz.prog w = .ok (.string (bs l)) w := by
  rcases h.2 with ⟨rfl, h0⟩ | ⟨g, cap, cur, rfl, _, hg, _, _, _, htk⟩
  · obtain rfl := List.eq_nil_of_length_eq_zero h0
    exact Lib.run_convert_nil_bytes w 59 9 5 0 Tryz.underlying59 Tryz.underlying5 Tryz.underlying9
  · rw [Nat.mul_one] at htk
    exact run_convert_bytes_back w 59 9 5 ⟨g, 0, none⟩ cap l Tryz.underlying59 Tryz.underlying5 Tryz.underlying9 (Lib.bytes_of_row hg htk)
theorem unq_last : ∀ (r : List UInt8), PF.unq r ≠ none → ∃ m, r = m ++ [34]
  | [], h => absurd rfl h
  | [c], h => by
    unfold PF.unq at h
    split at h
    · rename_i hc; exact ⟨[], by rw [hc]; rfl⟩
    · exact absurd rfl h
  | c :: d :: r, h => by
    unfold PF.unq at h
    split at h
    · exact absurd rfl h
    · split at h
      · split at h
        · obtain ⟨m, rfl⟩ := unq_last r (by intro e; rw [e] at h; exact h rfl)
          exact ⟨c :: d :: m, rfl⟩
        · split at h
          · obtain ⟨m, rfl⟩ := unq_last r (by intro e; rw [e] at h; exact h rfl)
            exact ⟨c :: d :: m, rfl⟩
          · exact absurd rfl h
      · obtain ⟨m, hm⟩ := unq_last (d :: r) (by intro e; rw [e] at h; exact h rfl)
        exact ⟨c :: m, by rw [hm]; rfl⟩
/-- What stands between quotes, as the result. -/
def uqR (o : Option (List UInt8)) : Value := match o with
  | none => .tuple #[.string ⟨#[]⟩, .bool false]
  | some t => .tuple #[.string (bs t), .bool true]
def InUq (r m : List UInt8) (w : World) (v i : Value) (wr : World) : Prop :=
  ∃ (k : Nat) (l : List UInt8), i = .int .i64 (k : Int) ∧ k ≤ m.length ∧ PF.unq r = (PF.unq (m.drop k ++ [34])).map (l ++ ·) ∧ l.length ≤ k ∧ wr.ownsRow w.heap.size 5 1 v l.length (Lib.byteCells l) ∧ Below w.heap.size w wr
def up (n : Nat) : Value → Nat
  | .int _ k => n - k.toNat
  | _ => 0
theorem mid_text (a : UInt8) (m : List UInt8) (c : UInt8) : (bs (a :: (m ++ [c]))).extract 1 (m.length + 1) = bs m := by
  apply ByteArray.ext
  apply Array.toList_inj.1
  rw [Lib.extract_data, bs_list, bs_list]
  simp
set_option maxHeartbeats 4000000 in
theorem unquoted52 (r : List UInt8) (hr : r.length ≤ 140737488355327) (w : World) : Calls Tryz.prog 52 #[.string (bs (34 :: r))] w fun e w' => e = .returned (uqR (PF.unq r)) ∧ Below w.heap.size w w' := by
  obtain ⟨i0, hi, hz0, hz1, hz2⟩ := info_parts info5c
  obtain ⟨hsz0, hg0, hem0, h0i0, h1i0, htl0⟩ := bs_head (r := 34 :: r) rfl
  have hsl : (bs (34 :: r)).size = r.length + 1 := by rw [bs_size]; rfl
  have HSL := Lib.hid hsl
  rcases List.eq_nil_or_concat r with e | ⟨m, c, e⟩
  · have h2 : ((bs (34 :: r)).size : Int) < 2 := by rw [e] at hsl ⊢; simp at hsl; omega
    have HU : Hid (PF.unq r = none) := Lib.hid (by rw [e]; rfl)
    clear e hsl
    go_enter Tryz.func52, Tryz.ntmps52
    go_wp2_with fail
    go_ret2
    exact ⟨by rw [HU.out]; rfl, Below.refl _ _⟩
  · rw [List.concat_eq_append] at e
    have hml : r.length = m.length + 1 := by rw [e]; simp
    have h2 : ¬((bs (34 :: r)).size : Int) < 2 := by omega
    have hli : ((bs (34 :: r)).size : Int) - 1 = ((m.length + 1 : Nat) : Int) := by omega
    have hlt : m.length + 1 < (bs (34 :: r)).size := by omega
    have hlast : (bs (34 :: r))[m.length + 1] = c := by
      rw [bs_get]
      simp [e]
    have hmid := mid_text 34 m c
    rw [← e] at hmid
    have hltz : ((m.length + 1 : Nat) : Int) < ((bs (34 :: r)).size : Int) := by omega
    have hmlz : (1 : Int) ≤ ((m.length + 1 : Nat) : Int) := by omega
    have hlez : ((m.length + 1 : Nat) : Int) ≤ ((bs (34 :: r)).size : Int) := by omega
    obtain ⟨L, hL⟩ : ∃ L, bs (34 :: r) = L := ⟨_, rfl⟩
    obtain ⟨n, hn⟩ : ∃ n, m.length + 1 = n := ⟨_, rfl⟩
    have HE := Lib.hid e
    have HN := Lib.hid hn
    simp only [hL, hn] at *
    clear e hsl
    by_cases hc : c = 34
    · have HUM : Hid (r = m ++ [34]) := Lib.hid (by rw [HE.out, hc])
      have c34 : ((c.toNat : Int) == 34) = true := byte_eq c 34 (by decide) hc
      clear hc
      go_enter Tryz.func52, Tryz.ntmps52
      go_wp2_with fail
      clear hlast hmid hltz hmlz hlez hlt hli hg0 htl0 hem0 h0i0 h1i0 hsz0 c34
      go_loopw [4, 5] (fun v i wr => InUq r m w v i wr) (fun _ i _ => up m.length i)
      case atStart => exact ⟨0, [], rfl, by omega, by rw [HUM.out, List.drop_zero]; cases PF.unq (m ++ [34]) <;> rfl, by simp, World.ownsRow_nil _ _ _ _, Below.refl _ _⟩
      case round =>
        obtain ⟨k, l, rfl, hk, hun, hlk, hown, hb⟩ := hrel
        have HOWN := Lib.hid hown
        have HB := Lib.hid hb
        have HUN := Lib.hid hun
        clear hown hb hun
        rcases list_cases (m.drop k) with e | ⟨c, t, e⟩
        · have h1 := (at_nil hk e).1
          have HU2 : Hid (PF.unq r = some l) := Lib.hid (by rw [HUN.out, e]; simp [PF.unq])
          have HCV := Lib.hid (conv_bytes HOWN.out)
          have hcv := HCV.out
          clear e
          go_wp2_with fail
          go_ret2
          exact ⟨by rw [HU2.out]; rfl, HB.out⟩
        · obtain ⟨hlt, hg, hz, hd, hk1⟩ := at_cons e
          rw [e] at HUN
          by_cases h34 : c = 34
          · have c34 : ((c.toNat : Int) == 34) = true := byte_eq c 34 (by decide) h34
            have HU2 : Hid (PF.unq r = none) := Lib.hid (by
              rw [HUN.out, h34]
              cases t with
              | nil => rfl
              | cons d u => rw [List.cons_append, List.cons_append, unq_close]; rfl)
            clear e hd h34
            go_wp2_with fail
            go_ret2
            exact ⟨by rw [HU2.out]; rfl, HB.out⟩
          · have c34 : ((c.toNat : Int) == 34) = false := byte_ne c 34 (by decide) h34
            by_cases h10 : c = 10
            · have c10 : ((c.toNat : Int) == 10) = true := byte_eq c 10 (by decide) h10
              have HU2 : Hid (PF.unq r = none) := Lib.hid (by rw [HUN.out, h10, List.cons_append, unq_line]; rfl)
              clear e hd h34 h10
              go_wp2_with fail
              go_ret2
              exact ⟨by rw [HU2.out]; rfl, HB.out⟩
            · have c10 : ((c.toNat : Int) == 10) = false := byte_ne c 10 (by decide) h10
              by_cases h92 : c = 92
              · have c92 : ((c.toNat : Int) == 92) = true := byte_eq c 92 (by decide) h92
                rw [h92] at HUN
                rcases list_cases t with e2 | ⟨d, u, e2⟩
                · have hk1e : m.drop (k + 1) = [] := by rw [hd, e2]
                  have h2 := (at_nil hk1 hk1e).1
                  have h2z : ((bs m).size : Int) ≤ (k : Int) + 1 := by omega
                  have HU2 : Hid (PF.unq r = none) := Lib.hid (by rw [HUN.out, e2]; rfl)
                  clear e hd h34 h10 h92 e2 hk1e h2
                  go_wp2_with fail
                  go_ret2
                  exact ⟨by rw [HU2.out]; rfl, HB.out⟩
                · have hk1e : m.drop (k + 1) = d :: u := by rw [hd, e2]
                  obtain ⟨k1, hk1n⟩ : ∃ k1, k + 1 = k1 := ⟨_, rfl⟩
                  have hk1z : (k : Int) + 1 = (k1 : Int) := by omega
                  rw [hk1n] at hk1e
                  obtain ⟨hlt2, hg2, hz2', hd2, hk2⟩ := at_cons hk1e
                  rw [e2] at HUN
                  have hnot : ¬((bs m).size : Int) ≤ (k1 : Int) := by omega
                  have hlk1 : l.length ≤ k1 := by omega
                  have hkk1 : k < k1 := by omega
                  have hunq := unq_esc d (u ++ [34])
                  clear e hd h34 h10 h92 e2 hk1e hk1n
                  by_cases d34 : d = 34
                  · have HU3 : Hid (PF.unq r = ((PF.unq (m.drop (k1 + 1) ++ [34])).map (34 :: ·)).map (l ++ ·)) := Lib.hid (by rw [HUN.out, List.cons_append, List.cons_append, hunq, if_pos (.inl d34), hd2, d34])
                    clear hunq hd2 HUN
                    subst d34
                    go_wp2_with (at_builtin; refine wpList_append_own _ rfl _ _ 59 rfl w.heap.size 5 i0 (.int .u8 0) 1 1 Tryz.underlying59 hi hz0 hz1 hz2 rfl (by decide) _ _ _ rfl (HOWN.out.alloc _) ⟨wr.heap.size, 0, none⟩ 1 1 [.int .u8 34] rfl rfl (one_cell _ _) (by intro u hu; simp at hu; subst hu; rfl) (by unfold maxLen; omega) (by omega) (by have := HB.out.size; simp; omega) ?_)
                    intro v' w2 hown' hgrow _
                    have HOWN2 := Lib.hid hown'
                    have HB2 := Lib.hid ((HB.out.alloc (by have := HB.out.size; omega) _).grown hgrow (by have := HB.out.size; simp; omega) (fun j hj => (HOWN.out.lt j hj).1))
                    clear hown' hgrow
                    go_wp2_with fail
                    go_roundw
                    case rel => exact ⟨k1 + 1, l ++ [34], rfl, by omega, by rw [HU3.out, map_app], by simp; omega, by rw [byteCells_app]; simpa using HOWN2.out, HB2.out⟩
                    case measure => simp [up]; omega
                  · by_cases d92 : d = 92
                    · have HU3 : Hid (PF.unq r = ((PF.unq (m.drop (k1 + 1) ++ [34])).map (92 :: ·)).map (l ++ ·)) := Lib.hid (by rw [HUN.out, List.cons_append, List.cons_append, hunq, if_pos (.inr d92), hd2, d92])
                      clear d34 hunq hd2 HUN
                      subst d92
                      go_wp2_with (at_builtin; refine wpList_append_own _ rfl _ _ 59 rfl w.heap.size 5 i0 (.int .u8 0) 1 1 Tryz.underlying59 hi hz0 hz1 hz2 rfl (by decide) _ _ _ rfl (HOWN.out.alloc _) ⟨wr.heap.size, 0, none⟩ 1 1 [.int .u8 92] rfl rfl (one_cell _ _) (by intro u hu; simp at hu; subst hu; rfl) (by unfold maxLen; omega) (by omega) (by have := HB.out.size; simp; omega) ?_)
                      intro v' w2 hown' hgrow _
                      have HOWN2 := Lib.hid hown'
                      have HB2 := Lib.hid ((HB.out.alloc (by have := HB.out.size; omega) _).grown hgrow (by have := HB.out.size; simp; omega) (fun j hj => (HOWN.out.lt j hj).1))
                      clear hown' hgrow
                      go_wp2_with fail
                      go_roundw
                      case rel => exact ⟨k1 + 1, l ++ [92], rfl, by omega, by rw [HU3.out, map_app], by simp; omega, by rw [byteCells_app]; simpa using HOWN2.out, HB2.out⟩
                      case measure => simp [up]; omega
                    · by_cases d110 : d = 110
                      · have HU3 : Hid (PF.unq r = ((PF.unq (m.drop (k1 + 1) ++ [34])).map (10 :: ·)).map (l ++ ·)) := Lib.hid (by rw [HUN.out, List.cons_append, List.cons_append, hunq, if_neg (by simp [d34, d92]), if_pos d110, hd2])
                        clear d34 d92 hunq hd2 HUN
                        subst d110
                        go_wp2_with (at_builtin; refine wpList_append_own _ rfl _ _ 59 rfl w.heap.size 5 i0 (.int .u8 0) 1 1 Tryz.underlying59 hi hz0 hz1 hz2 rfl (by decide) _ _ _ rfl (HOWN.out.alloc _) ⟨wr.heap.size, 0, none⟩ 1 1 [.int .u8 10] rfl rfl (one_cell _ _) (by intro u hu; simp at hu; subst hu; rfl) (by unfold maxLen; omega) (by omega) (by have := HB.out.size; simp; omega) ?_)
                        intro v' w2 hown' hgrow _
                        have HOWN2 := Lib.hid hown'
                        have HB2 := Lib.hid ((HB.out.alloc (by have := HB.out.size; omega) _).grown hgrow (by have := HB.out.size; simp; omega) (fun j hj => (HOWN.out.lt j hj).1))
                        clear hown' hgrow
                        go_wp2_with fail
                        go_roundw
                        case rel => exact ⟨k1 + 1, l ++ [10], rfl, by omega, by rw [HU3.out, map_app], by simp; omega, by rw [byteCells_app]; simpa using HOWN2.out, HB2.out⟩
                        case measure => simp [up]; omega
                      · have f34 : ((d.toNat : Int) != 34) = true := by show (!((d.toNat : Int) == 34)) = true; rw [show ((d.toNat : Int) == 34) = false from byte_ne d 34 (by decide) d34]; rfl
                        have f92 : ((d.toNat : Int) != 92) = true := by show (!((d.toNat : Int) == 92)) = true; rw [show ((d.toNat : Int) == 92) = false from byte_ne d 92 (by decide) d92]; rfl
                        have f110 : ((d.toNat : Int) != 110) = true := by show (!((d.toNat : Int) == 110)) = true; rw [show ((d.toNat : Int) == 110) = false from byte_ne d 110 (by decide) d110]; rfl
                        have HU3 : Hid (PF.unq r = none) := Lib.hid (by rw [HUN.out, List.cons_append, List.cons_append, hunq, if_neg (by simp [d34, d92]), if_neg d110]; rfl)
                        clear d34 d92 d110 hunq hd2 HUN
                        go_wp2_with fail
                        go_ret2
                        exact ⟨by rw [HU3.out]; rfl, HB.out⟩
              · have c92 : ((c.toNat : Int) == 92) = false := byte_ne c 92 (by decide) h92
                have HU3 : Hid (PF.unq r = ((PF.unq (m.drop (k + 1) ++ [34])).map (c :: ·)).map (l ++ ·)) := Lib.hid (by rw [HUN.out, List.cons_append, unq_plain c _ h34 h10 h92, hd])
                clear e hd h34 h10 h92
                go_wp2_with (at_builtin; refine wpList_append_own _ rfl _ _ 59 rfl w.heap.size 5 i0 (.int .u8 0) 1 1 Tryz.underlying59 hi hz0 hz1 hz2 rfl (by decide) _ _ _ rfl (HOWN.out.alloc _) ⟨wr.heap.size, 0, none⟩ 1 1 [.int .u8 c.toNat] rfl rfl (one_cell _ _) (by intro u hu; simp at hu; subst hu; rfl) (by unfold maxLen; omega) (by omega) (by have := HB.out.size; simp; omega) ?_)
                intro v' w2 hown' hgrow _
                have HOWN2 := Lib.hid hown'
                have HB2 := Lib.hid ((HB.out.alloc (by have := HB.out.size; omega) _).grown hgrow (by have := HB.out.size; simp; omega) (fun j hj => (HOWN.out.lt j hj).1))
                clear hown' hgrow
                go_wp2_with fail
                go_roundw
                case rel => exact ⟨k + 1, l ++ [c], rfl, by omega, by rw [HU3.out, map_app], by simp; omega, by rw [byteCells_app]; simpa using HOWN2.out, HB2.out⟩
                case measure => simp [up]; omega
    · have HU : Hid (PF.unq r = none) := Lib.hid (by
        by_cases h : PF.unq r = none
        · exact h
        · obtain ⟨m2, e2⟩ := unq_last r h
          rw [HE.out] at e2
          have := congrArg List.getLast? e2
          simp at this
          exact absurd this hc)
      have c34 : ((c.toNat : Int) == 34) = false := byte_ne c 34 (by decide) hc
      clear hc
      go_enter Tryz.func52, Tryz.ntmps52
      go_wp2_with fail
      go_ret2
      exact ⟨by rw [HU.out]; rfl, Below.refl _ _⟩
end Go.Proofs.YtagiddbfhlokcaaGreatDoor
/- The other package's Whole, Int, Parse. Condition: the text's length; strconv's tables. -/
namespace Go.Proofs.YtagiddbfhlokcaaGreatDoor
open Go.RowKit
set_option maxRecDepth 100000
/-- A number behind perhaps a sign, in 64 bits. -/
def wholeP (l : List UInt8) : Int × Bool :=
  if PF.isNeg l then (if PF.numD (PF.body l) ≤ 9223372036854775808 then (-(PF.numD (PF.body l) : Int), true) else (0, false))
  else (if PF.numD (PF.body l) < 9223372036854775808 then ((PF.numD (PF.body l) : Int), true) else (0, false))
def InWh (b : List UInt8) (lim : Nat) (w : World) (v i : Value) (wr : World) : Prop :=
  ∃ k : Nat, i = .int .i64 (k : Int) ∧ k ≤ b.length ∧ v = .int .u64 (PF.numD (b.take k) : Int) ∧ PF.numD (b.take k) ≤ lim ∧ w = wr
theorem take_next {b : List UInt8} {k : Nat} {c : UInt8} {t : List UInt8} (e : b.drop k = c :: t) : b.take (k + 1) = b.take k ++ [c] := by
  have h := (at_cons e).choose_spec.2.2.2
  have hk : k < b.length := by omega
  have h2 := List.drop_eq_getElem_cons hk
  rw [e] at h2
  injection h2 with h3 _
  rw [List.take_add_one, List.getElem?_eq_getElem hk, ← h3]
  rfl
theorem numD_take_le (b : List UInt8) (k : Nat) : PF.numD (b.take k) ≤ PF.numD b := by
  have := PF.numD_le (b.take k) (b.drop k)
  rwa [List.take_append_drop] at this
theorem wrap_u8_dig {c : UInt8} (h : PF.isDig c = true) : IntKind.wrap .u8 ((c.toNat : Int) - 48) = ((c.toNat - 48 : Nat) : Int) := by
  obtain ⟨h1, h2⟩ := isDig_true h
  have : ((c.toNat : Int) - 48) = ((c.toNat - 48 : Nat) : Int) := by omega
  rw [this]
  obtain ⟨n, hn⟩ : ∃ n, c.toNat - 48 = n := ⟨_, rfl⟩
  have hn9 : n ≤ 9 := by omega
  rw [hn]
  simp [IntKind.wrap, IntKind.signed, IntKind.bits]
  omega
theorem wneg (n : Nat) (h : n ≤ 9223372036854775808) : wrap64 (IntKind.u64.wrap (-(n : Int))) = -(n : Int) := by
  rw [IntKind.wrap_u64]
  unfold wrap64
  omega
theorem wpos (n : Nat) (h : n < 9223372036854775808) : wrap64 (n : Int) = (n : Int) := by
  unfold wrap64
  omega
set_option maxHeartbeats 4000000 in
theorem whole80 (l : List UInt8) (hl : l.length ≤ 281474976710656) (h0 : l ≠ []) (hall : (PF.body l).all PF.isDig = true) (w : World) :
    Calls Tryz.prog 80 #[.string (bs l)] w fun e w' => e = .returned (.tuple #[.int .i64 (wholeP l).1, .bool (wholeP l).2]) ∧ w = w' := by
  obtain ⟨R, hR⟩ : ∃ R, wholeP l = R := ⟨_, rfl⟩
  rw [hR]
  obtain ⟨b, hb⟩ : ∃ b, PF.body l = b := ⟨_, rfl⟩
  obtain ⟨lim, hlim⟩ : ∃ lim : Nat, (if PF.isNeg l then 9223372036854775808 else 9223372036854775807) = lim := ⟨_, rfl⟩
  obtain ⟨bn, hbn⟩ : ∃ bn, PF.isNeg l = bn := ⟨_, rfl⟩
  have hneg := isNeg_head l
  have hbl : b.length ≤ 281474976710656 := by
    rw [← hb]
    unfold PF.body
    split
    · rename_i r; simp at hl; omega
    · exact hl
  unfold wholeP at hR
  rw [hb, hbn] at hR
  rw [hbn] at hlim hneg
  rw [hb] at hall
  have HR := Lib.hid hR
  have HALL := Lib.hid hall
  have HLIM := Lib.hid hlim
  have HB := Lib.hid hb
  have HBN := Lib.hid hbn
  have HNEG := Lib.hid hneg
  clear hR hall hlim hb hneg
  rcases list_cases l with e | ⟨c, t, e⟩
  · exact absurd e h0
  · obtain ⟨hlt, hg, hem, h0i, h1i, htl⟩ := bs_head e
    rw [e] at HNEG
    have HTB : Hid (bn = true → t = b) := Lib.hid (fun h => by rw [← HB.out, e]; have := HNEG.out; rw [h] at this; have h45 := of_decide_eq_true this.symm; rw [h45]; rfl)
    have HLB : Hid (bn = false → l = b) := Lib.hid (fun h => by rw [← HB.out]; exact (PF.body_pos (l := l) (fun r er => by rw [h] at hbn; rw [er] at hbn; cases hbn)).1.symm)
    clear e hbn h0
    go_enter Tryz.func80, Tryz.ntmps80
    have c45 : ((c.toNat : Int) == 45) = bn := by
      have h := HNEG.out
      cases bn with
      | true => exact byte_eq c 45 (by decide) (of_decide_eq_true h.symm)
      | false => exact byte_ne c 45 (by decide) (of_decide_eq_false h.symm)
    go_upto_if 12 with (fail)
    go_cut [0, 4] from 13 to 14 (fun s v w' => s = .string (bs b) ∧ v = .int .u64 (lim : Int) ∧ w = w')
    case first =>
      cases bn with
      | true =>
        obtain rfl := HTB.out rfl
        obtain rfl : 9223372036854775808 = lim := HLIM.out
        go_wp2_with fail
        go_meet
        case rel => exact ⟨rfl, rfl, rfl⟩
      | false =>
        obtain rfl : 9223372036854775807 = lim := HLIM.out
        have HLB2 := Lib.hid (HLB.out rfl)
        go_wp2_with fail
        go_meet
        case rel => exact ⟨by rw [HLB2.out], rfl, rfl⟩
    case rest =>
      obtain ⟨rfl, rfl, rfl⟩ := hcut
      have hlim : lim ≤ 9223372036854775808 := by rw [← HLIM.out]; split <;> omega
      have hlim9 : 9 ≤ lim := by rw [← HLIM.out]; split <;> omega
      clear hlt hg hem h0i h1i htl HTB HLB HNEG c45
      go_wp2_with fail
      go_loopw [6, 7] (fun v i wr => InWh b lim w v i wr) (fun _ i => fun _ => up b.length i)
      case atStart => exact ⟨0, rfl, by omega, rfl, by rw [List.take_zero]; show 0 ≤ lim; omega, rfl⟩
      case round =>
        obtain ⟨k, rfl, hk, rfl, hn, rfl⟩ := hrel
        obtain ⟨n, hnn⟩ : ∃ n, PF.numD (b.take k) = n := ⟨_, rfl⟩
        rw [hnn] at hn ⊢
        have HNN := Lib.hid hnn
        clear hnn
        rcases list_cases (b.drop k) with e | ⟨c, t, e⟩
        · have h1 := (at_nil hk e).1
          have HN2 : Hid (PF.numD b = n) := Lib.hid (by
            rw [← HNN.out]
            have := List.take_append_drop k b
            rw [e, List.append_nil] at this
            rw [this])
          clear e
          cases bn with
          | true =>
            have hlz : lim = 9223372036854775808 := HLIM.out.symm
            have hwn := wneg n (by omega)
            have hr := HR.out
            rw [HN2.out, if_pos rfl, if_pos (by omega)] at hr
            have HR2 := Lib.hid hr
            clear hr hlz
            go_wp2_with fail
            go_ret2
            exact ⟨by rw [← HR2.out]; rfl, rfl⟩
          | false =>
            have hlz : lim = 9223372036854775807 := HLIM.out.symm
            have hwn := wpos n (by omega)
            have hr := HR.out
            rw [HN2.out, if_neg (by decide), if_pos (by omega)] at hr
            have HR2 := Lib.hid hr
            clear hr hlz
            go_wp2_with fail
            go_ret2
            exact ⟨by rw [← HR2.out]; rfl, rfl⟩
        · obtain ⟨hlt, hg, hz, hd, hk1⟩ := at_cons e
          have hdg : PF.isDig c = true := by
            have := HALL.out
            rw [List.all_eq_true] at this
            exact this c (List.mem_of_mem_drop (by rw [e]; exact List.mem_cons_self))
          have hw8 := wrap_u8_dig hdg
          obtain ⟨d1, d2⟩ := isDig_true hdg
          have HT := Lib.hid (take_next e)
          obtain ⟨d, hdd⟩ : ∃ d, c.toNat - 48 = d := ⟨_, rfl⟩
          rw [hdd] at hw8
          have hd9 : d ≤ 9 := by omega
          have HN2 : Hid (PF.numD (b.take (k + 1)) = n * 10 + d) := Lib.hid (by rw [HT.out, PF.numD_snoc, HNN.out, hdd])
          clear e hd hdg hdd
          by_cases hov : lim < n * 10 + d
          · have hgt : ((lim : Int) - (d : Int)) / 10 < (n : Int) := by omega
            have HR2 : Hid ((0, false) = R) := Lib.hid (by
              have := numD_take_le b (k + 1)
              rw [HN2.out] at this
              have hl := HLIM.out
              rw [← HR.out]
              cases bn with
              | true => rw [if_pos rfl] at hl ⊢; rw [if_neg (by omega)]
              | false => rw [if_neg (by decide)] at hl ⊢; rw [if_neg (by omega)])
            clear hov
            go_wp2_with fail
            go_ret2
            exact ⟨by rw [← HR2.out]; rfl, rfl⟩
          · have hgt : ¬((lim : Int) - (d : Int)) / 10 < (n : Int) := by omega
            go_wp2_with fail
            go_roundw
            case rel => exact ⟨k + 1, rfl, hk1, by rw [HN2.out]; simp [Int.mul_comm], by rw [HN2.out]; omega, rfl⟩
            case measure => simp [up]; omega
theorem tw_body {l : List UInt8} : (PF.body l).all PF.isDig = decide (p0 l + tw l (p0 l) = l.length) := by
  obtain ⟨h1, h2⟩ := p0_drop l
  rw [← h1, all_take, ← drop_tw]
  have h3 := tw_le l (p0 l) h2
  rw [Bool.eq_iff_iff]
  simp
  omega
theorem tw_len {l : List UInt8} (h : p0 l + tw l (p0 l) = l.length) : (PF.body l).length = tw l (p0 l) := by
  obtain ⟨h1, h2⟩ := p0_drop l
  rw [← h1]
  simp
  omega
theorem intP_whole {l : List UInt8} (h1 : 1 ≤ (PF.body l).length) (h2 : (PF.body l).length ≤ 25) (h3 : (PF.body l).all PF.isDig = true) :
    PF.intP l = if (wholeP l).2 then ((wholeP l).1, 0) else (0, 3) := by
  unfold PF.intP wholeP
  rw [if_pos ⟨h1, h2, h3⟩]
  split <;> split <;> rfl
set_option maxHeartbeats 4000000 in
theorem int37 (l : List UInt8) (hl : l.length ≤ 281474976710656) (w : World) :
    Calls Tryz.prog 37 #[.string (bs l)] w fun e w' => e = .returned (.tuple #[.int .i64 (PF.intP l).1, .int .i64 (PF.intP l).2]) ∧ w = w' := by
  obtain ⟨hp0, hp0l⟩ := p0_drop l
  have hall := tw_body (l := l)
  have hlen := fun h => tw_len (l := l) h
  have hno : (PF.body l).all PF.isDig = false ∨ (PF.body l).length < 1 ∨ 25 < (PF.body l).length → PF.intP l = (0, 2) := by
    intro h
    unfold PF.intP
    rw [if_neg]
    rintro ⟨a, b, c⟩
    rcases h with h | h | h
    · rw [h] at c; cases c
    · omega
    · omega
  have MD := Lib.hid (fun i hi => digits79 l i hl hi)
  have HNEG := Lib.hid (isNeg_head l)
  obtain ⟨q0, hq0⟩ : ∃ q, p0 l = q := ⟨_, rfl⟩
  have HQ0 : Hid ((if PF.isNeg l then 1 else 0) = q0) := Lib.hid hq0
  have htl := tw_le l q0 (by rw [← hq0]; exact hp0l)
  obtain ⟨n, hn⟩ : ∃ n, tw l q0 = n := ⟨_, rfl⟩
  rw [hq0] at hall hlen hp0l
  rw [hn] at hall hlen htl
  have M := Lib.hid (MD.out q0 hp0l w)
  rw [hn] at M
  obtain ⟨q, hq⟩ : ∃ q, q0 + n = q := ⟨_, rfl⟩
  rw [hq] at hall hlen htl M
  have HALL := Lib.hid hall
  have HLEN := Lib.hid hlen
  have HNO := Lib.hid hno
  have HSZ := Lib.hid (bs_size l)
  obtain ⟨bn, hbn⟩ : ∃ b, PF.isNeg l = b := ⟨_, rfl⟩
  rw [hbn] at HQ0 HNEG
  clear hall hlen hno hbn hp0 hq0 hn
  go_enter Tryz.func37, Tryz.ntmps37
  go_upto_region 2 with (fail)
  go_cut [15] from 8 to 15 (fun v w' => v = .bool bn ∧ w = w')
  case first =>
    rcases list_cases l with e | ⟨c, t, e⟩
    · have h0 : (bs l).size = 0 := by rw [bs_size, e]; rfl
      have h0z : ¬((0 : Int) < ((bs l).size : Int)) := by omega
      have hq : bn = false := by rw [HNEG.out, e]; rfl
      subst hq
      clear e h0
      go_wp2_with fail
      go_meet
      case rel => exact ⟨rfl, rfl⟩
    · obtain ⟨hlt, hg, hem, h0i, h1i, htl⟩ := bs_head e
      by_cases h45 : c = 45
      · have c45 : ((c.toNat : Int) == 45) = true := byte_eq c 45 (by decide) h45
        have hq : bn = true := by rw [HNEG.out, e, h45]; rfl
        subst hq
        clear e htl h45
        go_wp2_with fail
        go_meet
        case rel => exact ⟨rfl, rfl⟩
      · have c45 : ((c.toNat : Int) == 45) = false := byte_ne c 45 (by decide) h45
        have hq : bn = false := by rw [HNEG.out, e]; simp [headIs, h45]
        subst hq
        clear e htl h45
        go_wp2_with fail
        go_meet
        case rel => exact ⟨rfl, rfl⟩
  case rest =>
   obtain ⟨rfl, rfl⟩ := hcut
   go_upto_if 15 with (fail)
   go_cut [4] from 16 to 16 (fun v w' => v = .int .i64 (q0 : Int) ∧ w = w')
   case first =>
    cases bn with
    | true =>
      have hqq : q0 = 1 := HQ0.out.symm
      clear M MD HALL HLEN
      subst hqq
      go_wp2_with fail
      go_meet
      case rel => exact ⟨rfl, rfl⟩
    | false =>
      have hqq : q0 = 0 := HQ0.out.symm
      clear M MD HALL HLEN
      subst hqq
      go_wp2_with fail
      go_meet
      case rel => exact ⟨rfl, rfl⟩
   case rest =>
    obtain ⟨rfl, rfl⟩ := hcut
    go_wp2_with fail
    refine M.out.mono ?_
    rintro e w' ⟨rfl, rfl⟩
    by_cases hq1 : q = q0
    · have hqz : ((q : Int) == (q0 : Int)) = true := by simp; omega
      have HI : Hid (PF.intP l = (0, 2)) := Lib.hid (HNO.out (by
        by_cases h : q = l.length
        · have := HLEN.out h; omega
        · left; rw [HALL.out]; simp [h]))
      clear hq1 hq
      go_wp2_with fail
      go_ret2
      exact ⟨by rw [HI.out]; rfl, rfl⟩
    · have hqz : ((q : Int) == (q0 : Int)) = false := by rw [beq_eq_false_iff_ne]; omega
      by_cases hql : q = l.length
      · have hqlz : ((q : Int) != ((bs l).size : Int)) = false := by rw [HSZ.out]; simp; omega
        have hbl := HLEN.out hql
        by_cases h25 : 25 < n
        · have h25z : (25 : Int) < (q : Int) - (q0 : Int) := by omega
          have HI : Hid (PF.intP l = (0, 2)) := Lib.hid (HNO.out (by omega))
          clear hq1 hq hql
          go_wp2_with fail
          go_ret2
          exact ⟨by rw [HI.out]; rfl, rfl⟩
        · have h25z : ¬(25 : Int) < (q : Int) - (q0 : Int) := by omega
          have hall : (PF.body l).all PF.isDig = true := by rw [HALL.out]; simp [hql]
          have HI := Lib.hid (intP_whole (l := l) (by omega) (by omega) hall)
          have MW := Lib.hid (whole80 l hl (by rintro rfl; simp at hql; omega) hall w)
          obtain ⟨x, hx⟩ : ∃ x, wholeP l = x := ⟨_, rfl⟩
          rw [hx] at MW HI
          obtain ⟨v, ok⟩ := x
          simp only at MW HI
          clear hx hq1 hq hql hall
          go_wp2_with fail
          refine MW.out.mono ?_
          rintro e w' ⟨rfl, rfl⟩
          cases ok with
          | true =>
            go_wp2_with fail
            go_ret2
            exact ⟨by rw [HI.out]; rfl, rfl⟩
          | false =>
            go_wp2_with fail
            go_ret2
            exact ⟨by rw [HI.out]; rfl, rfl⟩
      · have hqlz : ((q : Int) != ((bs l).size : Int)) = true := by rw [HSZ.out]; simp; omega
        have HI : Hid (PF.intP l = (0, 2)) := Lib.hid (HNO.out (by left; rw [HALL.out]; simp [hql]))
        clear hq1 hq hql
        go_wp2_with fail
        go_ret2
        exact ⟨by rw [HI.out]; rfl, rfl⟩
end Go.Proofs.YtagiddbfhlokcaaGreatDoor
/- A float less itself: nothing, where it is finite; no number, where it is not. No condition. -/
namespace PF
open Ieee
theorem sum_self (s : Bool) (m : Nat) (i : Int) : (Datum.number s m i).sum (Datum.number s m i).opposite = some (.number false 0 i) := by
  unfold Datum.opposite Datum.sum
  simp only [Int.min_self, Int.sub_self]
  have h : signed s m (0 : Int).toNat + signed (!s) m (0 : Int).toNat = 0 := by
    unfold signed
    cases s <;> simp <;> omega
  rw [h]
  cases s <;> simp
theorem sub_fin {x : Nat} (h : Fin x) : double.sub x x = some 0 := by
  have hs : double.signWeight = 9223372036854775808 := rfl
  have hl : double.leastPlace = -1074 := by decide
  have hb : double.binade = 4503599627370496 := rfl
  have hi : double.infRung = 9218868437227405312 := rfl
  unfold Fin at h
  have hn : ∃ s m i, double.read x = .number s m i := by
    unfold Format.read
    simp only [hs, hl, hb, hi]
    split
    · exact ⟨_, _, _, rfl⟩
    · exact ⟨_, _, _, rfl⟩
  obtain ⟨s, m, i, hr⟩ := hn
  unfold Format.sub
  rw [hr, sum_self]
  rfl
theorem sub_inf {x : Nat} (h : Inf x) : double.sub x x = none := by
  have hs : double.signWeight = 9223372036854775808 := rfl
  have hb : double.binade = 4503599627370496 := rfl
  have hi : double.infRung = 9218868437227405312 := rfl
  unfold Inf at h
  have hr : ∃ s, double.read x = .infinity s := by
    unfold Format.read
    simp only [hs, hb, hi]
    rw [if_neg (by omega), if_neg (by omega), if_pos h]
    exact ⟨_, rfl⟩
  obtain ⟨s, hr⟩ := hr
  unfold Format.sub
  rw [hr]
  cases s <;> rfl
end PF
