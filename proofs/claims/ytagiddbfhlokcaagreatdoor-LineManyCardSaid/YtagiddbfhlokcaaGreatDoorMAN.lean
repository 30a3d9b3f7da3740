/- Several texts of this proof, laid together. Conditions: as each says. -/
import Derived.Test.YtagiddbfhlokcaaGreatDoorMAB
import Derived.Test.YtagiddbfhlokcaaGreatDoorMAD
import Derived.Test.YtagiddbfhlokcaaGreatDoorMAK
import Derived.Test.YtagiddbfhlokcaaGreatDoorMAL
import Derived.Test.YtagiddbfhlokcaaGreatDoorMAM
import Derived.Test.YtagiddbfhlokcaaGreatDoorMAA
import Derived.Lib.SmallJoins
import Derived.Deep.RegionHeld
import Derived.Deep.QuietTactic
/- The replacer replaces. Condition: its table; the text's length. -/
namespace Go.Proofs.YtagiddbfhlokcaaGreatDoor.Rp
open Go.RowKit PF
set_option maxRecDepth 100000
/-- How many bytes become two. -/
def qn (l : List UInt8) : Nat := l.count 10 + l.count 34 + l.count 92
theorem qn_cons (c : UInt8) (l : List UInt8) : qn (c :: l) = (if c = 10 ∨ c = 34 ∨ c = 92 then 1 else 0) + qn l := by
  unfold qn
  simp only [List.count_cons]
  by_cases h1 : c = 10
  · subst h1; simp; omega
  by_cases h2 : c = 34
  · subst h2; simp; omega
  by_cases h3 : c = 92
  · subst h3; simp; omega
  simp [h1, h2, h3]
theorem q1_quiet {c : UInt8} (h : ¬ (c = 10 ∨ c = 34 ∨ c = 92)) : q1 c = [c] := by
  unfold q1
  rw [if_neg (fun e => h (.inr (.inl e))), if_neg (fun e => h (.inr (.inr e))), if_neg (fun e => h (.inl e))]
theorem q1_loud {c : UInt8} (h : c = 10 ∨ c = 34 ∨ c = 92) : (q1 c).length = 2 := by
  rcases h with rfl | rfl | rfl <;> rfl
theorem quo_length (l : List UInt8) : (quo l).length = l.length + qn l := by
  induction l with
  | nil => rfl
  | cons c l ih =>
    have e : quo (c :: l) = q1 c ++ quo l := rfl
    rw [e, List.length_append, ih, qn_cons, List.length_cons]
    by_cases h : c = 10 ∨ c = 34 ∨ c = 92
    · rw [if_pos h, q1_loud h]; omega
    · rw [if_neg h, q1_quiet h]; simp; omega
theorem quo_id : ∀ l : List UInt8, qn l = 0 → quo l = l
  | [], _ => rfl
  | c :: l, h => by
    rw [qn_cons] at h
    by_cases hc : c = 10 ∨ c = 34 ∨ c = 92
    · rw [if_pos hc] at h; omega
    · rw [if_neg hc] at h
      show q1 c ++ quo l = c :: l
      rw [q1_quiet hc, quo_id l (by omega)]
      rfl
theorem nil59 (w : World) : (binOp .neq 59 (.slice none 0 0) (.slice none 0 0)).run Tryz.prog w = .ok (.bool false) w := by kernel_rfl
theorem some59 (b c : Nat) (w : World) : (binOp .neq 59 (.slice (some ⟨b, 0, none⟩) 2 c) (.slice none 0 0)).run Tryz.prog w = .ok (.bool true) w := by kernel_rfl
theorem qn_snoc {l : List UInt8} {k : Nat} {c : UInt8} {t : List UInt8} (h : l.drop k = c :: t) : qn (l.take (k + 1)) = qn (l.take k) + (if c = 10 ∨ c = 34 ∨ c = 92 then 1 else 0) := by
  have hc : l[k]? = some c := by
    have := congrArg (·[0]?) h
    simpa using this
  rw [List.take_add_one, hc]
  unfold qn
  simp only [List.count_append, Option.toList_some, List.count_cons, List.count_nil]
  by_cases h1 : c = 10
  · subst h1; simp; omega
  by_cases h2 : c = 34
  · subst h2; simp; omega
  by_cases h3 : c = 92
  · subst h3; simp; omega
  simp [h1, h2, h3]
theorem Rep.loud {w : World} {n : Nat} (h : Rep w n) {c : UInt8} (hc : c = 10 ∨ c = 34 ∨ c = 92) : ∃ b d, n + 1 < b ∧ b < w.heap.size ∧ w.cell? ⟨n + 1, c.toNat, none⟩ = some (.slice (some ⟨b, 0, none⟩) 2 d) ∧ w.cell? ⟨b, 0, none⟩ = some (.int .u8 92) ∧ w.cell? ⟨b, 1, none⟩ = some (.int .u8 (((q1 c).getD 1 0).toNat : Int)) := by
  rcases hc with rfl | rfl | rfl
  · exact h.d10
  · exact h.d34
  · exact h.d92
theorem count_bs (l : List UInt8) (c : UInt8) : Lib.countByte (bs l).data.toList c = l.count c := by
  unfold Lib.countByte bs
  rfl
def S3 (a b c k : Nat) : Nat := if k = 0 then 0 else if k = 1 then a else if k = 2 then a + b else a + b + c
theorem made59 (n : Nat) (hn : n ≤ 140737488351232) (w : World) : (Instr.makeSlice 59 (.int .i64 (n : Int)) (.int .i64 (n : Int))).run Tryz.prog w = .ok (.slice (some ⟨w.heap.size, 0, none⟩) n n) (w.alloc (.cells (madeCells #[.int .u8 0] n) 5)) := by
  obtain ⟨i0, hi, hz0, hz1, hz2⟩ := info_parts One.info5
  have h := run_make (P := Tryz.prog) w 59 5 i0 _ Tryz.underlying59 hi hz0 .i64 .i64 n n (by omega) (Int.le_refl _) (by rw [hz2]; omega) (by omega)
  rw [hz1] at h
  simpa [Value.cells] using h
theorem buf_new (w : World) (n : Nat) : Buf w (w.alloc (.cells (madeCells #[.int .u8 0] n) 5)) w.heap.size n [] := by
  refine ⟨(Below.refl _ w).alloc (Nat.le_refl _) _, ?_, Nat.zero_le _⟩
  rw [heap_alloc_last]
  congr 2
  apply Array.ext'
  simp only [madeCells, Lib.byteCells, Array.toList_map, Array.toList_range, List.map_nil, List.nil_append, List.length_nil, Nat.sub_zero]
  refine List.ext_getElem (by simp) fun i h1 h2 => ?_
  simp [Nat.mod_one]
theorem Buf.str {w wx : World} {B N : Nat} {d : List UInt8} (h : Buf w wx B N d) (e : d.length = N) : (convert 59 9 (.slice (some ⟨B, 0, none⟩) N N)).run Tryz.prog wx = .ok (.string (bs d)) wx := by
  subst e
  refine run_convert_bytes_back _ 59 9 5 ⟨B, 0, none⟩ d.length d Tryz.underlying59 Tryz.underlying5 Tryz.underlying9 fun j hj => ?_
  rw [show (Addr.add ⟨B, 0, none⟩ j) = ⟨B, j, none⟩ by unfold Addr.add; split <;> simp_all]
  rw [cell_of_row _ _ j _ _ _ h.row, List.getElem?_toArray, List.getElem?_append, if_pos (by rw [byteCells_len]; exact hj), Lib.byteCells, List.getElem?_map, List.getElem?_eq_getElem hj]
  rfl
/-- A buffer from a place on. -/
theorem slice59 (B N k : Nat) (hk : k < N) (w' : World) : (Instr.slice 59 (.slice (some ⟨B, 0, none⟩) N N) (some (.int .i64 (k : Int))) none none).run Tryz.prog w' = .ok (.slice (some ⟨B, k, none⟩) (N - k) (N - k)) w' := by
  have hso : (Tryz.prog.info? 5).map (·.size) = some 1 := by kernel_rfl
  have h1 : ¬ (N : Int) < k := by omega
  have h2 : N ≠ k := by omega
  simp [Instr.slice, Instr.sliceBounds, Instr.sliceBound, asIntOf, go_sem, h2]
  intro h; omega
theorem q1_form {c : UInt8} (h : c = 10 ∨ c = 34 ∨ c = 92) : q1 c = [92, (q1 c).getD 1 0] := by
  rcases h with rfl | rfl | rfl <;> rfl
theorem Buf.drew {w wx : World} {B N : Nat} {d : List UInt8} (h : Buf w wx B N d) : Buf w wx.drew B N d := ⟨h.bel.drew, h.row, h.le⟩
theorem addr_zero (b j : Nat) : (Addr.add ⟨b, 0, none⟩ j) = ⟨b, j, none⟩ := by unfold Addr.add; split <;> simp_all
theorem copy_src {c : UInt8} {w : World} {b : Nat} (h : q1 c = [92, (q1 c).getD 1 0]) (h0 : w.cell? ⟨b, 0, none⟩ = some (.int .u8 92)) (h1 : w.cell? ⟨b, 1, none⟩ = some (.int .u8 (((q1 c).getD 1 0).toNat : Int))) : ∀ j v, (Lib.byteCells (q1 c))[j]? = some v → w.cell? ((⟨b, 0, none⟩ : Addr).add j) = some v := by
  intro j v hj
  rw [addr_zero]
  rw [h] at hj
  have hj2 : j < 2 := by
    have := (List.getElem?_eq_some_iff.1 hj).1
    simpa [Lib.byteCells] using this
  obtain rfl | rfl : j = 0 ∨ j = 1 := by omega
  · rw [h0]; exact hj
  · rw [h1]; exact hj
set_option maxHeartbeats 4000000 in
theorem replace_309 (l : List UInt8) (hl : l.length ≤ 70000) (n : Nat) (w : World) (hR : Rep w n) : Calls Tryz.prog 309 #[.pointer (some ⟨n + 1, 0, none⟩), .string (bs l)] w fun e w' => e = .returned (.string (bs (quo l))) ∧ Below w.heap.size w w' := by
  have hsz : (bs l).size = l.length := bs_size l
  have hszm : ((bs l).size : Int) = (l.length : Int) := by rw [hsz]
  have hsl := hR.sl
  obtain ⟨tb, htb⟩ : ∃ tb, decide ((24 : Int) ≤ (l.length : Int)) = tb := ⟨_, rfl⟩
  have HR := Lib.hid hR
  clear hR
  obtain ⟨Q, hQ⟩ : ∃ Q : Nat, qn l = Q := ⟨_, rfl⟩
  have HQ := Lib.hid hQ
  have HL := Lib.hid hl
  clear hQ hl
  go_enter Tryz.func309, Tryz.ntmps309
  go_upto_if 26 with (fail)
  go_cut [5, 6, 7, 8, 9, 10, 11] from 26 to 80 (fun v a _ _ _ _ _ w' => v = .int .i64 ((l.length : Int) + (Q : Int)) ∧ a = .bool (decide (0 < Q)) ∧ ∃ m, w' = w.drewN m)
  case first =>
    cases tb with
    | true =>
      go_wp2_with fail
      go_loopw [5, 6, 32] (fun v a i wx => ∃ k m : Nat, k ≤ 3 ∧ i = .int .i64 (k : Int) ∧ v = .int .i64 ((l.length : Int) + (S3 (l.count 10) (l.count 34) (l.count 92) k : Int)) ∧ a = .bool (decide (0 < S3 (l.count 10) (l.count 34) (l.count 92) k)) ∧ wx = w.drewN m) (fun _ _ i _ => (3 - intOf i).toNat)
      case atStart => exact ⟨0, 0, by decide, rfl, by simp [S3], rfl, rfl⟩
      case round =>
        obtain ⟨k, m, hk, rfl, rfl, rfl, rfl⟩ := hrel
        obtain rfl | rfl | rfl | rfl : k = 0 ∨ k = 1 ∨ k = 2 ∨ k = 3 := by omega
        · have e3 := HR.out.t0
          obtain ⟨b, c, b1, b2, e4, e5, e6⟩ := HR.out.d10
          have g10 : ∀ h, ((({ data := #[10] } : ByteArray)[0]'h).toNat : Int) = 10 := fun _ => rfl
          obtain ⟨C, hC⟩ : ∃ C, l.count 10 = C := ⟨_, rfl⟩
          have HC := Lib.hid hC
          have hCl : C ≤ 70000 := by
            have := HL.out
            have h2 := List.count_le_length (a := 10) (l := l)
            omega
          obtain ⟨V, hV⟩ : ∃ V : Nat, S3 (l.count 10) (l.count 34) (l.count 92) 0 = V := ⟨_, rfl⟩
          have HV := Lib.hid hV
          have hVl : V ≤ 210000 := by
            have := HL.out
            have h1 := List.count_le_length (a := 10) (l := l)
            have h2 := List.count_le_length (a := 34) (l := l)
            have h3 := List.count_le_length (a := 92) (l := l)
            rw [← hV]
            simp [S3] <;> omega
          have hll := HL.out
          obtain ⟨A, hA⟩ : ∃ A, decide (0 < V) = A := ⟨_, rfl⟩
          have HA := Lib.hid hA
          rw [hV, hA]
          have HN : Hid (S3 (l.count 10) (l.count 34) (l.count 92) (0 + 1) = V + C) := Lib.hid (by rw [← hV, ← hC]; simp [S3])
          clear hC hV hA
          by_cases hz : C = 0
          · subst hz
            go_wp2_with (go_at_call 164; refine (Tryz.strings_Count_one (bs l) 10 _).mono ?_; rintro e w' ⟨rfl, rfl⟩; rw [count_bs, HC.out])
            exact ⟨⟨0 + 1, m, by decide, rfl, by rw [HN.out, Nat.add_zero], by rw [HN.out, Nat.add_zero, HA.out], rfl⟩, by simp [intOf]⟩
          · have hz2 : ((C : Int) != 0) = true := by simp [hz]
            have hz3 : ¬ ((C : Int) = 0) := by omega
            go_wp2_with (go_at_call 164; refine (Tryz.strings_Count_one (bs l) 10 _).mono ?_; rintro e w' ⟨rfl, rfl⟩; rw [count_bs, HC.out])
            go_quiet (fail)
            go_wp2
            exact ⟨⟨0 + 1, _, by decide, rfl, by rw [HN.out]; simp [Int.add_assoc], by rw [HN.out]; simp; omega, rfl⟩, by simp [intOf]⟩
        · have e3 := HR.out.t1
          obtain ⟨b, c, b1, b2, e4, e5, e6⟩ := HR.out.d34
          have g10 : ∀ h, ((({ data := #[34] } : ByteArray)[0]'h).toNat : Int) = 34 := fun _ => rfl
          obtain ⟨C, hC⟩ : ∃ C, l.count 34 = C := ⟨_, rfl⟩
          have HC := Lib.hid hC
          have hCl : C ≤ 70000 := by
            have := HL.out
            have h2 := List.count_le_length (a := 34) (l := l)
            omega
          obtain ⟨V, hV⟩ : ∃ V : Nat, S3 (l.count 10) (l.count 34) (l.count 92) 1 = V := ⟨_, rfl⟩
          have HV := Lib.hid hV
          have hVl : V ≤ 210000 := by
            have := HL.out
            have h1 := List.count_le_length (a := 10) (l := l)
            have h2 := List.count_le_length (a := 34) (l := l)
            have h3 := List.count_le_length (a := 92) (l := l)
            rw [← hV]
            simp [S3] <;> omega
          have hll := HL.out
          obtain ⟨A, hA⟩ : ∃ A, decide (0 < V) = A := ⟨_, rfl⟩
          have HA := Lib.hid hA
          rw [hV, hA]
          have HN : Hid (S3 (l.count 10) (l.count 34) (l.count 92) (1 + 1) = V + C) := Lib.hid (by rw [← hV, ← hC]; simp [S3])
          clear hC hV hA
          by_cases hz : C = 0
          · subst hz
            go_wp2_with (go_at_call 164; refine (Tryz.strings_Count_one (bs l) 34 _).mono ?_; rintro e w' ⟨rfl, rfl⟩; rw [count_bs, HC.out])
            exact ⟨⟨1 + 1, m, by decide, rfl, by rw [HN.out, Nat.add_zero], by rw [HN.out, Nat.add_zero, HA.out], rfl⟩, by simp [intOf]⟩
          · have hz2 : ((C : Int) != 0) = true := by simp [hz]
            have hz3 : ¬ ((C : Int) = 0) := by omega
            go_wp2_with (go_at_call 164; refine (Tryz.strings_Count_one (bs l) 34 _).mono ?_; rintro e w' ⟨rfl, rfl⟩; rw [count_bs, HC.out])
            go_quiet (fail)
            go_wp2
            exact ⟨⟨1 + 1, _, by decide, rfl, by rw [HN.out]; simp [Int.add_assoc], by rw [HN.out]; simp; omega, rfl⟩, by simp [intOf]⟩
        · have e3 := HR.out.t2
          obtain ⟨b, c, b1, b2, e4, e5, e6⟩ := HR.out.d92
          have g10 : ∀ h, ((({ data := #[92] } : ByteArray)[0]'h).toNat : Int) = 92 := fun _ => rfl
          obtain ⟨C, hC⟩ : ∃ C, l.count 92 = C := ⟨_, rfl⟩
          have HC := Lib.hid hC
          have hCl : C ≤ 70000 := by
            have := HL.out
            have h2 := List.count_le_length (a := 92) (l := l)
            omega
          obtain ⟨V, hV⟩ : ∃ V : Nat, S3 (l.count 10) (l.count 34) (l.count 92) 2 = V := ⟨_, rfl⟩
          have HV := Lib.hid hV
          have hVl : V ≤ 210000 := by
            have := HL.out
            have h1 := List.count_le_length (a := 10) (l := l)
            have h2 := List.count_le_length (a := 34) (l := l)
            have h3 := List.count_le_length (a := 92) (l := l)
            rw [← hV]
            simp [S3] <;> omega
          have hll := HL.out
          obtain ⟨A, hA⟩ : ∃ A, decide (0 < V) = A := ⟨_, rfl⟩
          have HA := Lib.hid hA
          rw [hV, hA]
          have HN : Hid (S3 (l.count 10) (l.count 34) (l.count 92) (2 + 1) = V + C) := Lib.hid (by rw [← hV, ← hC]; simp [S3])
          clear hC hV hA
          by_cases hz : C = 0
          · subst hz
            go_wp2_with (go_at_call 164; refine (Tryz.strings_Count_one (bs l) 92 _).mono ?_; rintro e w' ⟨rfl, rfl⟩; rw [count_bs, HC.out])
            exact ⟨⟨2 + 1, m, by decide, rfl, by rw [HN.out, Nat.add_zero], by rw [HN.out, Nat.add_zero, HA.out], rfl⟩, by simp [intOf]⟩
          · have hz2 : ((C : Int) != 0) = true := by simp [hz]
            have hz3 : ¬ ((C : Int) = 0) := by omega
            go_wp2_with (go_at_call 164; refine (Tryz.strings_Count_one (bs l) 92 _).mono ?_; rintro e w' ⟨rfl, rfl⟩; rw [count_bs, HC.out])
            go_quiet (fail)
            go_wp2
            exact ⟨⟨2 + 1, _, by decide, rfl, by rw [HN.out]; simp [Int.add_assoc], by rw [HN.out]; simp; omega, rfl⟩, by simp [intOf]⟩
        · go_wp2_with fail
          go_meet
          have e : S3 (l.count 10) (l.count 34) (l.count 92) 3 = Q := HQ.out
          rw [e]
          exact ⟨rfl, rfl, m, rfl⟩
    | false =>
      go_wp2_with fail
      go_loopw [5, 6, 10] (fun v a i wx => ∃ k : Nat, k ≤ l.length ∧ i = .int .i64 (k : Int) ∧ v = .int .i64 ((l.length : Int) + (qn (l.take k) : Int)) ∧ a = .bool (decide (0 < qn (l.take k))) ∧ wx = w) (fun _ _ i _ => ((l.length : Int) - intOf i).toNat)
      case atStart => exact ⟨0, Nat.zero_le _, rfl, by simp [qn], rfl, rfl⟩
      case round =>
        obtain ⟨k, hk, rfl, rfl, rfl, rfl⟩ := hrel
        obtain ⟨V, hV⟩ : ∃ V : Nat, qn (l.take k) = V := ⟨_, rfl⟩
        have HV := Lib.hid hV
        have hVl : V ≤ 210000 := by
          have h0 := HL.out
          have h1 := quo_len (l.take k)
          have h2 := quo_length (l.take k)
          rw [List.length_take] at h1 h2
          omega
        have hll := HL.out
        obtain ⟨A, hA⟩ : ∃ A, decide (0 < V) = A := ⟨_, rfl⟩
        have HA := Lib.hid hA
        rw [hV, hA]
        clear hV hA
        rcases list_cases (l.drop k) with e | ⟨c, t, e⟩
        · obtain ⟨n1, n2⟩ := at_nil hk e
          have hke : k = l.length := by rw [n2, bs_size]
          clear e n2
          go_wp2_with fail
          go_meet
          have e2 : V = Q := by
            rw [← HV.out, ← HQ.out, hke, List.take_length]
          rw [← HA.out, e2]
          exact ⟨rfl, rfl, 0, rfl⟩
        · obtain ⟨hlt, hg, hz, _, hk1⟩ := at_cons e
          have HE := Lib.hid (qn_snoc e)
          clear e
          by_cases hc : c = 10 ∨ c = 34 ∨ c = 92
          · obtain ⟨b, d, b1, b2, e4, e5, e6⟩ := HR.out.loud hc
            have h59 := some59
            have HD : Hid (qn (l.take (k + 1)) = V + 1) := Lib.hid (by rw [HE.out, if_pos hc, HV.out])
            have hb1 : c.toNat < 256 := c.toNat_lt
            have hb2 : (c.toNat : Int) < 256 := by omega
            clear hc
            go_wp2_with fail
            go_roundw
            case rel => exact ⟨k + 1, hk1, by go_num, by rw [HD.out]; simp [Int.add_assoc], by rw [HD.out]; simp, trivial⟩
            case measure => simp [intOf]; omega
          · have ht := HR.out.tbl c.toNat (by have := c.toNat_lt; omega) (fun e => hc (.inl (UInt8.toNat_inj.1 e))) (fun e => hc (.inr (.inl (UInt8.toNat_inj.1 e)))) (fun e => hc (.inr (.inr (UInt8.toNat_inj.1 e))))
            have h59 := nil59
            have hb1 : c.toNat < 256 := c.toNat_lt
            have hb2 : (c.toNat : Int) < 256 := by omega
            have HD : Hid (qn (l.take (k + 1)) = V) := Lib.hid (by rw [HE.out, if_neg hc, HV.out, Nat.add_zero])
            clear hc
            go_wp2_with fail
            go_roundw
            case rel => exact ⟨k + 1, hk1, by go_num, by rw [HD.out], by rw [HD.out, HA.out], trivial⟩
            case measure => simp [intOf]; omega
  case rest =>
    obtain ⟨rfl, rfl, m, rfl⟩ := hcut
    by_cases hq : Q = 0
    · have HX := Lib.hid hq
      have hd : decide (0 < Q) = false := by rw [hq]; rfl
      rw [hd]
      clear hd hq
      go_wp2_with fail
      go_ret
      rw [quo_id l (HQ.out.trans HX.out)]
      exact ⟨rfl, below_drewN (Below.refl _ _) m⟩
    · have HX := Lib.hid hq
      have hd : decide (0 < Q) = true := by rw [decide_eq_true_eq]; omega
      rw [hd]
      clear hd hq
      have hmk := made59 (l.length + Q) (by have h1 := HL.out; have h2 := quo_len l; have h3 := quo_length l; have h4 := HQ.out; omega) (w.drewN m)
      have hcast : (((l.length + Q : Nat)) : Int) = (l.length : Int) + (Q : Int) := by push_cast; rfl
      rw [hcast] at hmk
      clear hcast
      go_wp2_with fail
      have HB := Lib.hid (buf_new (w.drewN m) (l.length + Q))
      obtain ⟨B, hBB⟩ : ∃ B, w.heap.size = B := ⟨_, rfl⟩
      obtain ⟨W1, hW1⟩ : ∃ W1, (w.drewN m).alloc (.cells (madeCells #[.int .u8 0] (l.length + Q)) 5) = W1 := ⟨_, rfl⟩
      rw [show (w.drewN m).heap.size = B from hBB, hW1] at HB
      rw [hBB, hW1]
      have HBB := Lib.hid hBB
      clear hW1 hmk hBB
      go_loopw [13, 14] (fun v i wx => ∃ k : Nat, k ≤ l.length ∧ i = .int .i64 (k : Int) ∧ v = .int .i64 ((quo (l.take k)).length : Int) ∧ Buf (w.drewN m) wx B (l.length + Q) (quo (l.take k))) (fun _ i _ => ((l.length : Int) - intOf i).toNat)
      case atStart => exact ⟨0, Nat.zero_le _, rfl, rfl, HB.out⟩
      case round =>
        obtain ⟨k, hk, rfl, rfl, hbuf⟩ := hrel
        have HF := Lib.hid hbuf
        have HJ : Hid ((quo (l.take k)).length ≤ l.length + Q) := Lib.hid hbuf.le
        clear hbuf
        rcases list_cases (l.drop k) with e | ⟨c, t, e⟩
        · obtain ⟨n1, n2⟩ := at_nil hk e
          have hke : k = l.length := by rw [n2, bs_size]
          have HS : Hid (quo (l.take k) = quo l) := Lib.hid (by rw [hke, List.take_length])
          have hst := HF.out.str (by rw [HS.out, quo_length, HQ.out])
          rw [HS.out] at hst
          clear e n2
          go_wp2_with fail
          go_ret
          exact ⟨rfl, (below_drewN (Below.refl _ _) m).trans (by rw [HBB.out]; exact HF.out.bel)⟩
        · obtain ⟨hlt, hg, hz, _, hk1⟩ := at_cons e
          have hc0 : l.getD k 0 = c := by
            have h1 : (l.drop k)[0]? = some c := by rw [e]; rfl
            rw [List.getElem?_drop, Nat.add_zero] at h1
            rw [List.getD_eq_getElem?_getD, h1]
            rfl
          have HQS : Hid (quo (l.take (k + 1)) = quo (l.take k) ++ q1 c) := Lib.hid (by rw [quo_snoc hk1, hc0])
          have hle : (quo (l.take k)).length + (q1 c).length ≤ l.length + Q := by
            have h1 : quo l = quo (l.take (k + 1)) ++ quo (l.drop (k + 1)) := by unfold quo; rw [← List.flatMap_append, List.take_append_drop]
            have h2 := congrArg List.length h1
            rw [HQS.out, List.length_append, List.length_append, quo_length l, HQ.out] at h2
            omega
          clear e hc0
          obtain ⟨D, hD⟩ : ∃ D, quo (l.take k) = D := ⟨_, rfl⟩
          rw [hD] at HF HJ HQS hle ⊢
          clear hD
          by_cases hc : c = 10 ∨ c = 34 ∨ c = 92
          · obtain ⟨b, d, b1, b2, e4, e5, e6⟩ := HR.out.loud hc
            have hq2 := q1_loud hc
            have hb1 : c.toNat < 256 := c.toNat_lt
            have hb2 : (c.toNat : Int) < 256 := by omega
            have ht : wr.cell? ⟨n + 1, c.toNat, none⟩ = some (.slice (some ⟨b, 0, none⟩) 2 d) := by
              rw [HF.out.bel.cell (p := ⟨n + 1, c.toNat, none⟩) (by rw [← HBB.out]; exact HR.out.two)]
              exact e4
            have h59 := some59
            have hJ1 : (D.length : Int) ≤ (l.length : Int) + (Q : Int) := by omega
            have hJ2 : D.length ≤ l.length + Q := by omega
            have he5 : wr.cell? ⟨b, 0, none⟩ = some (.int .u8 92) := by
              rw [HF.out.bel.cell (p := ⟨b, 0, none⟩) (by rw [← HBB.out]; exact b2)]
              exact e5
            have he6 : wr.cell? ⟨b, 1, none⟩ = some (.int .u8 (((q1 c).getD 1 0).toNat : Int)) := by
              rw [HF.out.bel.cell (p := ⟨b, 1, none⟩) (by rw [← HBB.out]; exact b2)]
              exact e6
            have hq1 := q1_form hc
            have HSRC : Hid (∀ j v, (Lib.byteCells (q1 c))[j]? = some v → wr.cell? ((⟨b, 0, none⟩ : Addr).add j) = some v) := Lib.hid (copy_src hq1 he5 he6)
            have hsl := slice59 B (l.length + Q) D.length (by omega)
            have HLE := Lib.hid hle
            have HQ2 := Lib.hid hq2
            clear hc e4 e5 e6 he5 he6 hq1 hq2 hle
            go_wp2_with fail
            go_region_law (refine step_copyB (Buf.drew HF.out) (by rfl) _ _ (by rfl) (l.length + Q - D.length) (l.length + Q - D.length) ⟨b, 0, none⟩ d (q1 c) (by simp [Act.eval]) (by rw [HQ2.out]; simp [Act.eval]) (fun j v h => HSRC.out j v h) (by have := HLE.out; omega) HLE.out ?_; intro w3 hb3; rw [HQ2.out]; have HB3 := Lib.hid hb3; clear hb3)
            go_wp2_with fail
            have w1 : wrap64 ((k : Int) + 1) = ((k + 1 : Nat) : Int) := by have := HL.out; unfold wrap64; omega
            have w2 : wrap64 ((D.length : Int) + 2) = ((D.length + 2 : Nat) : Int) := by have := HL.out; have := HJ.out; have h1 := quo_len l; have h2 := quo_length l; rw [HQ.out] at h2; unfold wrap64; omega
            rw [w1, w2]
            exact ⟨⟨k + 1, hk1, rfl, by rw [HQS.out, List.length_append, HQ2.out], by rw [HQS.out]; exact HB3.out⟩, by simp [intOf]; omega⟩
          · rw [q1_quiet hc] at HQS hle
            simp only [List.length_cons, List.length_nil] at hle
            have hb1 : c.toNat < 256 := c.toNat_lt
            have hb2 : (c.toNat : Int) < 256 := by omega
            have ht0 := HR.out.tbl c.toNat hb1 (fun e => hc (.inl (UInt8.toNat_inj.1 e))) (fun e => hc (.inr (.inl (UInt8.toNat_inj.1 e)))) (fun e => hc (.inr (.inr (UInt8.toNat_inj.1 e))))
            have ht : wr.cell? ⟨n + 1, c.toNat, none⟩ = some (.slice none 0 0) := by
              rw [HF.out.bel.cell (p := ⟨n + 1, c.toNat, none⟩) (by rw [← HBB.out]; exact HR.out.two)]
              exact ht0
            have h59 := nil59
            obtain ⟨x, hx⟩ := HF.out.cell (j := D.length) (by omega)
            have hf := HF.out.fz D.length
            have HP := Lib.hid (HF.out.push c (by omega))
            have hJ1 : (D.length : Int) < (l.length : Int) + (Q : Int) := by omega
            have hJ2 : D.length < l.length + Q := by omega
            clear hc ht0
            go_wp2_with fail
            have w1 : wrap64 ((k : Int) + 1) = ((k + 1 : Nat) : Int) := by have := HL.out; unfold wrap64; omega
            have w2 : wrap64 ((D.length : Int) + 1) = ((D.length + 1 : Nat) : Int) := by have := HL.out; have := HJ.out; have h1 := quo_len l; have h2 := quo_length l; rw [HQ.out] at h2; unfold wrap64; omega
            rw [w1, w2]
            exact ⟨⟨k + 1, hk1, rfl, by rw [HQS.out, List.length_append]; rfl, by rw [HQS.out]; exact HP.out⟩, by simp [intOf]; omega⟩
end Go.Proofs.YtagiddbfhlokcaaGreatDoor.Rp
/- The replacer asked; a value's text. Conditions: the text's length; the tables of powers. -/
namespace Go.Proofs.YtagiddbfhlokcaaGreatDoor.Rp
open Go.RowKit Go.Sort PF
set_option maxRecDepth 100000
theorem mf (fn : Fn) (first cap : Array Value) (w : World) : (Instr.makeFunc fn first cap).run Tryz.prog w = .ok (.func fn first cap) w := rfl
theorem meth309 (p : Option Addr) (w : World) : (method 473 241 (.pointer p) "Replace").run Tryz.prog w = .ok (309, .pointer p) w := by kernel_rfl
theorem replace_69 (B rb bo oc : Nat) (l : List UInt8) (hl : l.length ≤ 70000) (w : World) (hB : B ≤ rb) (h : Raw w rb bo oc) : Calls Tryz.prog 69 #[.pointer (some ⟨rb, 0, none⟩), .string (bs l)] w fun e w' => e = .returned (.string (bs (quo l))) ∧ Below B w w' := by
  have hmf := mf
  have hme := meth309
  have HB := Lib.hid hB
  have HR := Lib.hid h
  have HL := Lib.hid hl
  have hlt := h.lt
  clear hB h hl
  go_enter Tryz.func69, Tryz.ntmps69
  go_wp2_with (go_at_call 105; refine (do_105 B rb bo oc _ HB.out HR.out).mono ?_; rintro e w1 ⟨rfl, hb1, hi1, hrep⟩; have HB1 := Lib.hid hb1; have HREP := Lib.hid hrep; clear hb1 hrep)
  go_wp2_with (go_at_call 309; refine (replace_309 l HL.out _ _ HREP.out).mono ?_; rintro e w2 ⟨rfl, hb2⟩; have HB2 := Lib.hid hb2; clear hb2)
  go_ret
  exact ⟨rfl, HB1.out.trans (HB2.out.mono (Nat.le_trans HB.out (Nat.le_trans (Nat.le_of_lt hlt) HB1.out.size)))⟩
end Go.Proofs.YtagiddbfhlokcaaGreatDoor.Rp
/- A mantissa and an exponent put together; the scaling. No condition. -/
namespace Go.Proofs.YtagiddbfhlokcaaGreatDoor
open Go.RowKit
set_option maxRecDepth 100000
theorem and52 (m : Nat) (hm : m < 18446744073709551616) : bits BinOp.and IntKind.u64 (m : Int) 4503599627370496 = ((m / 4503599627370496 % 2 * 4503599627370496 : Nat) : Int) := by
  have h := bits_and_u64_nat m 4503599627370496 hm (by omega)
  rw [PF.and_pow m 52] at h
  exact h
theorem and63 (m : Nat) (hm : m < 18446744073709551616) : bits BinOp.and IntKind.u64 (m : Int) 9223372036854775808 = ((m / 9223372036854775808 % 2 * 9223372036854775808 : Nat) : Int) := by
  have h := bits_and_u64_nat m 9223372036854775808 hm (by omega)
  rw [PF.and_pow m 63] at h
  exact h
/-- An error of the inner package: its number. -/
def errV (b : Bool) : Value := if b then .iface 189 (.int .i64 1) else .nilIface
theorem run214 (n : Int) (w : World) : (callFunc 214 #[.int .u64 n]).run Tryz.prog w = .ok (.value (.float .f64 n.toNat)) w := by
  rw [run_callFunc_extern Tryz.func214 (by kernel_rfl) (by kernel_rfl) (by kernel_rfl) (e := Extern.MathFloatBits.float64frombits) (by kernel_rfl)]
  rfl
theorem pack247 (neg : Bool) (r : Nat) (hr : r ≤ 9007199254740992) (e : Int) (h1 : -1074 ≤ e) (h2 : e ≤ 5000) (w : World) :
    Calls Tryz.prog 247 #[.int .u64 ((PF.sgn neg + r : Nat) : Int), .int .i64 e] w fun x w' => x = .returned (.tuple #[.float .f64 (PF.pack (PF.sgn neg + r) e).1, errV (PF.pack (PF.sgn neg + r) e).2]) ∧ w = w' := by
  have hs : PF.sgn neg = 0 ∨ PF.sgn neg = 9223372036854775808 := by cases neg <;> simp [PF.sgn]
  have h214 := run214
  have hm := and52 (PF.sgn neg + r) (by omega)
  by_cases hc : (PF.sgn neg + r) / 4503599627370496 % 2 = 0
  · have hp : PF.pack (PF.sgn neg + r) e = (PF.sgn neg + r, false) := by unfold PF.pack; rw [if_pos hc]
    rw [hp]
    rw [hc] at hm
    obtain ⟨m, hmm⟩ : ∃ m, PF.sgn neg + r = m := ⟨_, rfl⟩
    rw [hmm] at hm ⊢
    clear hp hc hs hmm
    unfold errV
    go_enter Tryz.func247, Tryz.ntmps247
    go_wp2_with fail
    go_ret2
    exact ⟨rfl, rfl⟩
  · have hc1 : (PF.sgn neg + r) / 4503599627370496 % 2 = 1 := by omega
    rw [hc1] at hm
    by_cases he : 972 ≤ e
    · have hp : PF.pack (PF.sgn neg + r) e = ((PF.sgn neg + r) / 9223372036854775808 % 2 * 9223372036854775808 + 9218868437227405312, true) := by unfold PF.pack; rw [if_neg hc, if_pos he]
      rw [hp]
      have h63 := and63 (PF.sgn neg + r) (by omega)
      have hor : bits BinOp.or IntKind.u64 (((PF.sgn neg + r) / 9223372036854775808 % 2 * 9223372036854775808 : Nat) : Int) 9218868437227405312 = (((PF.sgn neg + r) / 9223372036854775808 % 2 * 9223372036854775808 + 9218868437227405312 : Nat) : Int) := by
        have e1 : (PF.sgn neg + r) / 9223372036854775808 % 2 * 9223372036854775808 = PF.sgn neg := by omega
        rw [e1]
        have := bits_or_u64_nat (PF.sgn neg) 9218868437227405312 (by omega) (by omega)
        rw [PF.or_sgn neg _ (by omega)] at this
        exact this
      obtain ⟨q, hq⟩ : ∃ q, (PF.sgn neg + r) / 9223372036854775808 % 2 * 9223372036854775808 = q := ⟨_, rfl⟩
      rw [hq] at h63 hor ⊢
      obtain ⟨m, hmm⟩ : ∃ m, PF.sgn neg + r = m := ⟨_, rfl⟩
      rw [hmm] at hm h63 ⊢
      obtain ⟨z, hz⟩ : ∃ z, q + 9218868437227405312 = z := ⟨_, rfl⟩
      rw [hz] at hor ⊢
      clear hp hc hc1 hs hmm hq hz
      unfold errV
      go_enter Tryz.func247, Tryz.ntmps247
      go_wp2_with fail
      go_ret2
      exact ⟨rfl, rfl⟩
    · have hp : PF.pack (PF.sgn neg + r) e = (PF.sgn neg + r - 4503599627370496 + (1075 + e).toNat * 4503599627370496, false) := by unfold PF.pack; rw [if_neg hc, if_neg he]
      rw [hp]
      obtain ⟨lo, rfl, hlo⟩ : ∃ lo, r = 4503599627370496 + lo ∧ lo < 4503599627370496 := ⟨r - 4503599627370496, by omega, by omega⟩
      have ha : bits BinOp.andNot IntKind.u64 ((PF.sgn neg + (4503599627370496 + lo) : Nat) : Int) 4503599627370496 = ((PF.sgn neg + lo : Nat) : Int) := by
        have h := u64_andNot_nat (PF.sgn neg + (4503599627370496 + lo)) 4503599627370496 (by omega) (by omega)
        have e : (18446744073709551615 - 4503599627370496 : Nat) = 18442240474082181119 := by decide
        rw [e, PF.andNot52 neg lo hlo] at h
        exact h
      obtain ⟨x, hx⟩ : ∃ x, (1075 + e).toNat = x := ⟨_, rfl⟩
      have ho : bits BinOp.or IntKind.u64 ((PF.sgn neg + lo : Nat) : Int) ((x * 4503599627370496 : Nat) : Int) = ((PF.sgn neg + (4503599627370496 + lo) - 4503599627370496 + x * 4503599627370496 : Nat) : Int) := by
        have := bits_or_u64_nat (PF.sgn neg + lo) (x * 4503599627370496) (by omega) (by omega)
        rw [PF.or_exp neg lo x hlo (by omega)] at this
        have e : PF.sgn neg + lo + x * 4503599627370496 = PF.sgn neg + (4503599627370496 + lo) - 4503599627370496 + x * 4503599627370496 := by omega
        exact this.trans (congrArg (fun n : Nat => (n : Int)) e)
      have hw : (1075 + e) * 4503599627370496 = ((x * 4503599627370496 : Nat) : Int) := by omega
      rw [hx]
      obtain ⟨z, hz⟩ : ∃ z, PF.sgn neg + (4503599627370496 + lo) - 4503599627370496 + x * 4503599627370496 = z := ⟨_, rfl⟩
      obtain ⟨y, hy⟩ : ∃ y, x * 4503599627370496 = y := ⟨_, rfl⟩
      obtain ⟨a, ha'⟩ : ∃ a, PF.sgn neg + lo = a := ⟨_, rfl⟩
      obtain ⟨m, hmm⟩ : ∃ m, PF.sgn neg + (4503599627370496 + lo) = m := ⟨_, rfl⟩
      rw [hz] at ho ⊢
      rw [hy] at ho hw
      rw [ha'] at ha ho
      rw [hmm] at hm ha ⊢
      have hy2 : y < 18446744073709551616 := by omega
      clear hp hc1 hc hr hs hz ha' hmm hy hx hlo lo neg x
      unfold errV
      go_enter Tryz.func247, Tryz.ntmps247
      go_wp2_with fail
      go_ret2
      exact ⟨rfl, rfl⟩
end Go.Proofs.YtagiddbfhlokcaaGreatDoor
/- The table's cell for an exponent; the scaling. Condition: the cells of the table of powers. -/
namespace Go.Proofs.YtagiddbfhlokcaaGreatDoor
open Go.RowKit
set_option maxRecDepth 100000
structure Pow (T : Nat → Nat × Nat) (w : World) : Prop where
  c0 : ∀ k : Nat, k < 696 → w.cell? ⟨15, k * 2, none⟩ = some (.int .u64 ((T k).1 : Int))
  c1 : ∀ k : Nat, k < 696 → w.cell? ⟨15, k * 2 + 1, none⟩ = some (.int .u64 ((T k).2 : Int))
def Pre (w : World) (b : Nat) (x y z : Value) : Prop := w.heap[b]? = some (.cells #[x, y, z] 306 (0, 0))
theorem Pre.c0 {w : World} {b : Nat} {x y z : Value} (h : Pre w b x y z) : w.cell? ⟨b, 0, none⟩ = some x := by rw [Lib.cell_of_heap h]; rfl
theorem Pre.c1 {w : World} {b : Nat} {x y z : Value} (h : Pre w b x y z) : w.cell? ⟨b, 1, none⟩ = some y := by rw [Lib.cell_of_heap h]; rfl
theorem Pre.c2 {w : World} {b : Nat} {x y z : Value} (h : Pre w b x y z) : w.cell? ⟨b, 2, none⟩ = some z := by rw [Lib.cell_of_heap h]; rfl
theorem Pre.set0 {w : World} {b : Nat} {x y z : Value} (h : Pre w b x y z) (v : Value) : Pre (w.setCell ⟨b, 0, none⟩ v) b v y z := Joins.block_setCell (i := 0) h v
theorem Pre.set1 {w : World} {b : Nat} {x y z : Value} (h : Pre w b x y z) (v : Value) : Pre (w.setCell ⟨b, 1, none⟩ v) b x v z := Joins.block_setCell (i := 1) h v
theorem Pre.set2 {w : World} {b : Nat} {x y z : Value} (h : Pre w b x y z) (v : Value) : Pre (w.setCell ⟨b, 2, none⟩ v) b x y v := Joins.block_setCell (i := 2) h v
theorem Pow.set {T : Nat → Nat × Nat} {w : World} {b i : Nat} (h : Pow T w) (hb : 15 < b) (v : Value) : Pow T (w.setCell ⟨b, i, none⟩ v) :=
  ⟨fun k hk => by rw [World.cell?_setCell_far _ _ _ _ (by simp; omega)]; exact h.c0 k hk, fun k hk => by rw [World.cell?_setCell_far _ _ _ _ (by simp; omega)]; exact h.c1 k hk⟩
theorem prescale241 (T : Nat → Nat × Nat) (k : Nat) (hk : k < 696) (e lp : Int) (he : -100000 ≤ e) (he2 : e ≤ 100000) (hl : -100000 ≤ lp) (hl2 : lp ≤ 100000) (w : World) (b : Nat) (x y z : Value) (h : Pre w b x y z) (hp : Pow T w) (hb : 15 < b) :
    Calls Tryz.prog 241 #[.pointer (some ⟨b, 0, none⟩), .int .i64 e, .int .i64 ((k : Int) - 348), .int .i64 lp] w fun x w' => x = .returned (.tuple #[]) ∧ Pre w' b (.int .u64 ((T k).1 : Int)) (.int .u64 ((T k).2 : Int)) (.int .i64 (-(e + lp + 3))) ∧ Below b w w' := by
  have p0 := hp.c0 k hk
  have c0 := h.c0
  have h1 := h.set0 (.int .u64 ((T k).1 : Int))
  have p1 := (hp.set (i := 0) hb (.int .u64 ((T k).1 : Int))).c1 k hk
  have c1 := h1.c1
  have h2 := h1.set1 (.int .u64 ((T k).2 : Int))
  have c2 := h2.c2
  have f0 := Lib.frozen_of_heap h 0
  have f1 := Lib.frozen_of_heap h1 1
  have f2 := Lib.frozen_of_heap h2 2
  have H3 := Lib.hid (h2.set2 (.int .i64 (-(e + lp + 3))))
  have k1 : (k : Int) - 348 - -348 = (k : Int) := by omega
  clear h h1 h2 hp
  go_enter Tryz.func241, Tryz.ntmps241
  go_wp2
  go_end0
  exact ⟨rfl, H3.out, (((Below.refl b w).setCell (p := ⟨b, 0, none⟩) (Nat.le_refl _) _).setCell (p := ⟨b, 1, none⟩) (Nat.le_refl _) _).setCell (p := ⟨b, 2, none⟩) (Nat.le_refl _) _⟩
end Go.Proofs.YtagiddbfhlokcaaGreatDoor
/- The scaled product. No condition. -/
namespace Go.Proofs.YtagiddbfhlokcaaGreatDoor
open Go.RowKit
set_option maxRecDepth 100000
theorem and63i : ∀ s : Fin 64, bits BinOp.and IntKind.i64 (s.val : Int) 63 = (s.val : Int) := by decide +kernel
theorem bool213q (b : Bool) (w : World) (n : Nat) : Calls Tryz.prog 213 #[.bool b] (w.drewN n) fun e w' => e = .returned (.int .u64 (b.toNat : Int)) ∧ ∃ m, w' = w.drewN m :=
  (bool213 b (w.drewN n)).mono fun _ _ ⟨h1, h2⟩ => ⟨h1, n, h2.symm⟩
theorem mulv (x y : Nat) (hx : x < 18446744073709551616) (hy : y < 18446744073709551616) (w : World) (hi lo : Nat) (h1 : x * y / PF.two64 = hi) (h2 : x * y % PF.two64 = lo) :
    Calls Tryz.prog 271 #[.int .u64 (x : Int), .int .u64 (y : Int)] w fun e w' => e = .returned (.tuple #[.int .u64 (hi : Int), .int .u64 (lo : Int)]) ∧ w = w' := by
  refine (Tryz.bits_Mul64 x y hx hy w).mono ?_
  rintro e w' ⟨rfl, h⟩
  subst h1 h2
  exact ⟨rfl, h.symm⟩
theorem uscale242 (x c1 c2 s : Nat) (hx : x < 18446744073709551616) (hc1 : c1 < 18446744073709551616) (hc2 : c2 < 18446744073709551616) (hs : s < 64) (w : World) (b : Nat) (h : Pre w b (.int .u64 (c1 : Int)) (.int .u64 (c2 : Int)) (.int .i64 (s : Int))) :
    Calls Tryz.prog 242 #[.int .u64 (x : Int), .pointer (some ⟨b, 0, none⟩)] w fun e w' => e = .returned (.int .u64 (PF.usc x (c1, c2) s : Int)) ∧ ∃ n, w' = w.drewN n := by
  have k0 := h.c0
  have k1 := h.c1
  have k2 := h.c2
  have b7 := and63i ⟨s, hs⟩
  simp only at b7
  obtain ⟨hi, h1⟩ : ∃ hi, x * c1 / PF.two64 = hi := ⟨_, rfl⟩
  obtain ⟨mid, h2⟩ : ∃ mid, x * c1 % PF.two64 = mid := ⟨_, rfl⟩
  obtain ⟨mid2, h3⟩ : ∃ mid2, x * c2 / PF.two64 = mid2 := ⟨_, rfl⟩
  obtain ⟨lo2, h4⟩ : ∃ lo2, x * c2 % PF.two64 = lo2 := ⟨_, rfl⟩
  have m1 := fun w => mulv x c1 hx hc1 w hi mid h1 h2
  have m2 := fun w => mulv x c2 hx hc2 w mid2 lo2 h3 h4
  have M1 := Lib.hid m1
  have M2 := Lib.hid m2
  have t64 : PF.two64 = 18446744073709551616 := rfl
  have lhi : hi < 18446744073709551616 := by
    rw [← h1, t64, Nat.div_lt_iff_lt_mul (by omega)]
    exact Nat.mul_lt_mul'' hx hc1
  have lmid : mid < 18446744073709551616 := by rw [← h2]; exact Nat.mod_lt _ (by decide)
  have lmid2 : mid2 < 18446744073709551616 := by
    rw [← h3, t64, Nat.div_lt_iff_lt_mul (by omega)]
    exact Nat.mul_lt_mul'' hx hc2
  unfold PF.usc
  dsimp only
  rw [h1, h2, h3]
  clear h m1 m2 h1 h2 h3 h4
  obtain ⟨q, hq⟩ : ∃ q : Nat, hi / 2 ^ s = q := ⟨_, rfl⟩
  have p2 : 0 < 2 ^ s := Nat.two_pow_pos s
  have lq : q ≤ hi := by rw [← hq]; exact Nat.div_le_self _ _
  have qi : (hi : Int) / 2 ^ s = (q : Int) := by rw [← hq]; norm_cast
  have ql : q * 2 ^ s ≤ hi := by rw [← hq]; exact Nat.div_mul_le_self _ _
  obtain ⟨r, hr⟩ : ∃ r : Nat, q * 2 ^ s = r := ⟨_, rfl⟩
  have wr : IntKind.u64.wrap ((q : Int) * 2 ^ s) = (r : Int) := by
    have e : (q : Int) * 2 ^ s = (r : Int) := by rw [← hr]; norm_cast
    rw [e, IntKind.wrap_u64]
    omega
  rw [hq, hr]
  rw [hr] at ql
  by_cases hc : r = hi
  · rw [if_pos hc]
    subst hc
    obtain ⟨g, hg⟩ : ∃ g : Nat, (r + PF.two64 - (decide (mid < mid2)).toNat) % PF.two64 = g := ⟨_, rfl⟩
    obtain ⟨q2, hq2⟩ : ∃ q2 : Nat, g / 2 ^ s = q2 := ⟨_, rfl⟩
    obtain ⟨d, hd⟩ : ∃ d : Nat, (mid + PF.two64 - mid2) % PF.two64 = d := ⟨_, rfl⟩
    rw [hg, hq2, hd]
    have lg : g < 18446744073709551616 := by rw [← hg]; exact Nat.mod_lt _ (by decide)
    have lq2 : q2 ≤ g := by rw [← hq2]; exact Nat.div_le_self _ _
    have q2i : (g : Int) / 2 ^ s = (q2 : Int) := by rw [← hq2]; norm_cast
    have bt : (decide (mid < mid2)).toNat ≤ 1 := by cases decide (mid < mid2) <;> decide
    have wg : IntKind.u64.wrap ((r : Int) - ((decide (mid < mid2)).toNat : Int)) = (g : Int) := by
      rw [IntKind.wrap_u64, ← hg, t64]
      omega
    have wd : IntKind.u64.wrap ((mid : Int) - (mid2 : Int)) = (d : Int) := by
      rw [IntKind.wrap_u64, ← hd, t64]
      omega
    have bt2 : (decide (1 < d)).toNat ≤ 1 := by cases decide (1 < d) <;> decide
    have bo := bits_or_u64_nat q2 (decide (1 < d)).toNat (by omega) (by omega)
    obtain ⟨B2, hB2⟩ : ∃ B, decide (1 < d) = B := ⟨_, rfl⟩
    have hb2 : decide ((1 : Int) < (d : Int)) = B2 := by rw [← hB2]; exact decide_eq_decide.2 (by omega)
    have ht : ((r : Int) != (r : Int)) = false := by simp
    rw [hB2] at bo ⊢
    clear hg hq2 hd bt bt2 hB2 hr hq p2 t64
    go_enter Tryz.func242, Tryz.ntmps242
    go_wp2_with fail
    refine (M1.out _).mono ?_
    rintro e w' ⟨rfl, rfl⟩
    go_wp2_with fail
    refine (M2.out _).mono ?_
    rintro e w' ⟨rfl, rfl⟩
    go_wp2_with fail
    refine (bool213 _ _).mono ?_
    rintro e w' ⟨rfl, rfl⟩
    go_wp2_with fail
    go_quiet ((go_at_call 213; exact bool213q _ _ _))
    go_wp2_with fail
    go_ret
    exact ⟨rfl, _, rfl⟩
  · rw [if_neg hc]
    have ht : ((r : Int) != (hi : Int)) = true := by simp; omega
    have bo : bits BinOp.or IntKind.u64 (q : Int) 1 = ((q ||| 1 : Nat) : Int) := bits_or_u64_nat q 1 (by omega) (by omega)
    clear hr hq p2 t64
    go_enter Tryz.func242, Tryz.ntmps242
    go_wp2_with fail
    refine (M1.out _).mono ?_
    rintro e w' ⟨rfl, rfl⟩
    go_wp2_with fail
    go_ret
    exact ⟨by rfl, 0, rfl⟩
end Go.Proofs.YtagiddbfhlokcaaGreatDoor
