/- Runs of letters and digits, and what stands between quotes, by the reference. Condition: the text's length. -/
import Derived.Test.YtcmdcdjclmpncaaM
namespace Go.Proofs.Ytcmdcdjclmpncaa
open Go.RowKit
theorem digit0 : digitB 0 = false := by decide
def spanE (s : ByteArray) (k : Nat) (p : UInt8 → Bool) : Nat := s.size - ((s.data.toList.drop k).dropWhile p).length
theorem spanE_drop (s : ByteArray) (k : Nat) (p : UInt8 → Bool) (hk : k ≤ s.size) : s.data.toList.drop (spanE s k p) = (s.data.toList.drop k).dropWhile p ∧ k ≤ spanE s k p ∧ spanE s k p ≤ s.size := by
  obtain ⟨q, hq⟩ := dw_suffix p (s.data.toList.drop k)
  have hl := congrArg List.length hq
  simp at hl
  have e2 : s.data.toList = (s.data.toList.take k ++ q) ++ (s.data.toList.drop k).dropWhile p := by
    rw [List.append_assoc, ← hq, List.take_append_drop]
  have e3 : spanE s k p = (s.data.toList.take k ++ q).length := by
    unfold spanE
    simp
    omega
  refine ⟨?_, by unfold spanE; omega, by unfold spanE; omega⟩
  rw [e3]
  exact (congrArg (List.drop _) e2).trans List.drop_left
def InSpan (s : ByteArray) (k : Nat) (p : UInt8 → Bool) (i : Value) : Prop :=
  ∃ m : Nat, i = .int .i64 m ∧ k ≤ m ∧ m ≤ s.size ∧ (s.data.toList.drop k).dropWhile p = (s.data.toList.drop m).dropWhile p
theorem ret_int {k : IntKind} {a b : Int} (h : a = b) : Ending.returned (.int k a) = .returned (.int k b) := by rw [h]
theorem spanD (s : ByteArray) (k : Nat) (w : World) (hs : s.size ≤ 1048576) (hk : k ≤ s.size) : Calls Try.prog 19 #[.string s, .int .i64 (k : Int), .bool false] w fun e w' => e = .returned (.int .i64 (spanE s k digitB : Nat)) ∧ w = w' := by
  go_enter Try.func19, Try.ntmps19
  go_wp2_with fail
  go_loop [1] (fun i => InSpan s k digitB i) (fun i => s.size - (intOf i).toNat)
  case atStart => exact ⟨k, rfl, Nat.le_refl _, hk, rfl⟩
  case round =>
    obtain ⟨m, rfl, hkm, hm, hdw⟩ := hrel
    by_cases hlt : m < s.size
    · obtain ⟨c, hcc⟩ : ∃ c, s[m] = c := ⟨_, rfl⟩
      have hdc := drop_cons s m hlt
      rw [hcc] at hdc
      have HDC := Lib.hid hdc
      have HDW := Lib.hid hdw
      clear hdc hdw
      cases hd : digitB c with
      | true =>
        have HP := Lib.hid hd
        have HD := Lib.hid hd
        clear hd
        go_wp2_with fail
        refine (rdigit _ _).mono ?_
        rw [HD.out]
        rintro e w3 ⟨rfl, rfl⟩
        go_wp2_with fail
        go_round
        case rel => exact ⟨m + 1, by go_num, by omega, by omega, by rw [HDW.out, HDC.out, List.dropWhile_cons, if_pos HP.out]⟩
        case measure => simp [intOf]; omega
      | false =>
        have HP := Lib.hid hd
        have HD := Lib.hid hd
        clear hd
        have HE : Hid (spanE s k digitB = m) := Lib.hid (by unfold spanE; rw [HDW.out, HDC.out, List.dropWhile_cons, if_neg (by simp [HP.out]), ← HDC.out]; simp; omega)
        go_wp2_with fail
        refine (rdigit _ _).mono ?_
        rw [HD.out]
        rintro e w3 ⟨rfl, rfl⟩
        go_wp2_with fail
        go_ret
        exact ⟨by rw [HE.out]; rfl, rfl⟩
    · have HE : Hid (spanE s k digitB = m) := Lib.hid (by unfold spanE; rw [hdw, show s.data.toList.drop m = [] from List.drop_eq_nil_of_le (by simp; omega)]; simp; omega)
      clear hdw
      go_wp2_with fail
      go_ret
      exact ⟨by rw [HE.out]; rfl, rfl⟩
theorem spanW (s : ByteArray) (k : Nat) (w : World) (hs : s.size ≤ 1048576) (hk : k ≤ s.size) : Calls Try.prog 19 #[.string s, .int .i64 (k : Int), .bool true] w fun e w' => e = .returned (.int .i64 (spanE s k wordB : Nat)) ∧ w = w' := by
  go_enter Try.func19, Try.ntmps19
  go_wp2_with fail
  go_loop [1] (fun i => InSpan s k wordB i) (fun i => s.size - (intOf i).toNat)
  case atStart => exact ⟨k, rfl, Nat.le_refl _, hk, rfl⟩
  case round =>
    obtain ⟨m, rfl, hkm, hm, hdw⟩ := hrel
    by_cases hlt : m < s.size
    · obtain ⟨c, hcc⟩ : ∃ c, s[m] = c := ⟨_, rfl⟩
      have hdc := drop_cons s m hlt
      rw [hcc] at hdc
      have HDC := Lib.hid hdc
      have HDW := Lib.hid hdw
      clear hdc hdw
      cases hd : digitB c with
      | true =>
        have HP := Lib.hid (show wordB c = true by simp [wordB, hd])
        have HD := Lib.hid hd
        clear hd
        go_wp2_with fail
        refine (rdigit _ _).mono ?_
        rw [HD.out]
        rintro e w3 ⟨rfl, rfl⟩
        go_wp2_with fail
        go_round
        case rel => exact ⟨m + 1, by go_num, by omega, by omega, by rw [HDW.out, HDC.out, List.dropWhile_cons, if_pos HP.out]⟩
        case measure => simp [intOf]; omega
      | false =>
        cases hl : letterB c with
        | true =>
          have HP := Lib.hid (show wordB c = true by simp [wordB, hl])
          have HD := Lib.hid hd
          have HL := Lib.hid hl
          clear hd hl
          go_wp2_with fail
          refine (rdigit _ _).mono ?_
          rw [HD.out]
          rintro e w3 ⟨rfl, rfl⟩
          go_wp2_with fail
          refine (rletter _ _).mono ?_
          rw [HL.out]
          rintro e w3 ⟨rfl, rfl⟩
          go_wp2_with fail
          go_round
          case rel => exact ⟨m + 1, by go_num, by omega, by omega, by rw [HDW.out, HDC.out, List.dropWhile_cons, if_pos HP.out]⟩
          case measure => simp [intOf]; omega
        | false =>
          have HP := Lib.hid (show wordB c = false by simp [wordB, hd, hl])
          have HD := Lib.hid hd
          have HL := Lib.hid hl
          clear hd hl
          have HE : Hid (spanE s k wordB = m) := Lib.hid (by unfold spanE; rw [HDW.out, HDC.out, List.dropWhile_cons, if_neg (by simp [HP.out]), ← HDC.out]; simp; omega)
          go_wp2_with fail
          refine (rdigit _ _).mono ?_
          rw [HD.out]
          rintro e w3 ⟨rfl, rfl⟩
          go_wp2_with fail
          refine (rletter _ _).mono ?_
          rw [HL.out]
          rintro e w3 ⟨rfl, rfl⟩
          go_wp2_with fail
          go_ret
          exact ⟨by rw [HE.out]; rfl, rfl⟩
    · have HE : Hid (spanE s k wordB = m) := Lib.hid (by unfold spanE; rw [hdw, show s.data.toList.drop m = [] from List.drop_eq_nil_of_le (by simp; omega)]; simp; omega)
      clear hdw
      go_wp2_with fail
      go_ret
      exact ⟨by rw [HE.out]; rfl, rfl⟩
def QuoPost (s : ByteArray) (o : Option (List UInt8 × List UInt8)) (w : World) (e : Ending) (w' : World) : Prop :=
  Below w.heap.size w w' ∧ match o with
    | some (b, r) => e = .returned (.tuple #[.string (ofL b), .int .i64 ((s.size - r.length : Nat) : Int), .bool true])
    | none => e = .returned (.tuple #[.string ⟨#[]⟩, .int .i64 0, .bool false])
def InQuo (s : ByteArray) (c : UInt8) (k0 : Nat) (w : World) (v i : Value) (wr : World) : Prop :=
  ∃ (k : Nat) (l : List UInt8), i = .int .i64 k ∧ k ≤ s.size ∧ quotedL c [] (s.data.toList.drop k0) = quotedL c l (s.data.toList.drop k) ∧ l.length ≤ k ∧ BOwn wr w.heap.size v l ∧ Below w.heap.size w wr
theorem own_ge {w : World} {base e size n b : Nat} {v : Value} {xs : List Value} (h : w.ownsRow base e size v n xs) (hb : v.ownBlock = some b) : base ≤ b := (h.lt b hb).1
set_option maxRecDepth 100000 in
set_option maxHeartbeats 1000000 in
theorem rquoted (s : ByteArray) (k0 : Nat) (c : UInt8) (w : World) (hs : s.size ≤ 1048576) (hk0 : k0 < s.size) (hcc : s[k0] = c) (h92 : c.toNat ≠ 92) : Calls Try.prog 20 #[.string s, .int .i64 (k0 : Int)] w (QuoPost s (quotedL c [] (s.data.toList.drop (k0 + 1))) w) := by
  obtain ⟨i0, hi, hz0, hz1, hz2⟩ := info_parts info5
  have HI := Lib.hid hi
  have HZ0 := Lib.hid hz0
  have HZ1 := Lib.hid hz1
  have HZ2 := Lib.hid hz2
  clear hi hz0 hz1 hz2
  have hkk : (0 : Int) ≤ (k0 : Int) := by omega
  have hkl : (k0 : Int) < (s.size : Int) := by omega
  have HC92 := Lib.hid h92
  clear h92
  go_enter Try.func20, Try.ntmps20
  go_wp2_with fail
  clear hcc
  go_loopw [8, 9] (fun v i wr => InQuo s c (k0 + 1) w v i wr) (fun _ i _ => s.size - (intOf i).toNat)
  case atStart => exact ⟨k0 + 1, [], by go_num, by omega, rfl, Nat.zero_le _, BOwn.nil _ _, Below.refl _ _⟩
  case round =>
    obtain ⟨k, l, rfl, hk, hq, hle, hown, hb⟩ := hrel
    have HO := Lib.hid hown
    have HB := Lib.hid hb
    have HQ := Lib.hid hq
    have hsz := HB.out.size
    clear hown hb hq
    by_cases hlt : k < s.size
    · obtain ⟨d, hdd⟩ : ∃ d, s[k] = d := ⟨_, rfl⟩
      have HT := Lib.hid (drop_cons s k hlt)
      rw [hdd] at HT
      by_cases hdc : d = c
      · subst hdc
        have hcv := str_of_own HO.out
        go_wp2_with fail
        go_ret3
        refine ⟨HB.out, ?_⟩
        rw [HQ.out, HT.out, quoted_end]
        simp only [List.length_drop]
        rw [show s.size - (s.data.toList.length - (k + 1)) = k + 1 by simp; omega]
        rfl
      · have hdq : ((d.toNat : Int) == (c.toNat : Int)) = false := by
          rw [beq_eq_false_iff_ne]
          intro h
          exact hdc (UInt8.toNat_inj.1 (by omega))
        by_cases h92 : d.toNat = 92
        · have hd92 : ((d.toNat : Int) == 92) = true := by simp; omega
          have H92 := Lib.hid h92
          clear h92
          by_cases h1 : k + 1 < s.size
          · obtain ⟨e, hee⟩ : ∃ e, s[k + 1] = e := ⟨_, rfl⟩
            have HT1 := Lib.hid (drop_cons s (k + 1) h1)
            rw [hee] at HT1
            have h1i : ¬ (s.size : Int) ≤ (k : Int) + 1 := by omega
            by_cases hec : e = c
            · subst hec
              have hb0 : ((e.toNat : Int) != (e.toNat : Int)) = false := by simp
              have HQL := Lib.hid (quoted_esc e l d e (s.data.toList.drop (k + 1 + 1)) hdc H92.out (.inl rfl))
              go_wp2_with ((at_builtin; go_must (refine wpList_append_own _ rfl (.tmp 53) (.tmp 57) 37 rfl w.heap.size 5 i0 _ 1 1 Try.underlying37 HI.out HZ0.out HZ1.out HZ2.out rfl (by omega) _ l.length _ rfl (World.ownsRow.alloc HO.out _) ⟨wr.heap.size, 0, none⟩ 1 1 [.int .u8 (e).toNat] rfl rfl (World.news_of_block (cs := #[.int .u8 (e).toNat]) (t := 5) (fr := (0, 0)) (heap_alloc_new wr _)) (by simp [Value.oneCell']) (by unfold maxLen; omega) (by omega) (by simp; omega) ?_); intro v1 w2 hown1 hgrow1 hnn; clear hnn))
              have hb2 := (HB.out.alloc hsz _).grown hgrow1 (by simp; omega) (fun j hj => own_ge HO.out hj)
              have HO1 := Lib.hid hown1
              have HB2 := Lib.hid hb2
              clear hb2 hown1 hgrow1
              go_wp2_with fail
              go_roundw
              case rel => exact ⟨k + 2, l ++ [e], by go_num, by omega, by rw [HQ.out, HT.out, HT1.out, HQL.out], by simp; omega, BOwn.snoc HO1.out rfl rfl, HB2.out⟩
              case measure => simp [intOf]; omega
            · have hb0 : ((e.toNat : Int) != (c.toNat : Int)) = true := by
                rw [bne_iff_ne]
                intro h
                exact hec (UInt8.toNat_inj.1 (by omega))
              by_cases he92 : e.toNat = 92
              · have hb1 : ((e.toNat : Int) != 92) = false := by simp; omega
                have HQL := Lib.hid (quoted_esc c l d e (s.data.toList.drop (k + 1 + 1)) hdc H92.out (.inr he92))
                clear he92
                go_wp2_with ((at_builtin; go_must (refine wpList_append_own _ rfl (.tmp 53) (.tmp 57) 37 rfl w.heap.size 5 i0 _ 1 1 Try.underlying37 HI.out HZ0.out HZ1.out HZ2.out rfl (by omega) _ l.length _ rfl (World.ownsRow.alloc HO.out _) ⟨wr.heap.size, 0, none⟩ 1 1 [.int .u8 (e).toNat] rfl rfl (World.news_of_block (cs := #[.int .u8 (e).toNat]) (t := 5) (fr := (0, 0)) (heap_alloc_new wr _)) (by simp [Value.oneCell']) (by unfold maxLen; omega) (by omega) (by simp; omega) ?_); intro v1 w2 hown1 hgrow1 hnn; clear hnn))
                have hb2 := (HB.out.alloc hsz _).grown hgrow1 (by simp; omega) (fun j hj => own_ge HO.out hj)
                have HO1 := Lib.hid hown1
                have HB2 := Lib.hid hb2
                clear hb2 hown1 hgrow1
                go_wp2_with fail
                go_roundw
                case rel => exact ⟨k + 2, l ++ [e], by go_num, by omega, by rw [HQ.out, HT.out, HT1.out, HQL.out], by simp; omega, BOwn.snoc HO1.out rfl rfl, HB2.out⟩
                case measure => simp [intOf]; omega
              · have hb1 : ((e.toNat : Int) != 92) = true := by simp; omega
                have HQL := Lib.hid (quoted_bad c l d e (s.data.toList.drop (k + 1 + 1)) hdc H92.out (fun h => h.elim hec he92))
                clear he92
                go_wp2_with fail
                go_ret3
                refine ⟨HB.out, ?_⟩
                rw [HQ.out, HT.out, HT1.out, HQL.out]
                rfl
          · have h1i : (s.size : Int) ≤ (k : Int) + 1 := by omega
            have HE := Lib.hid (show s.data.toList.drop (k + 1) = [] from List.drop_eq_nil_of_le (by simp; omega))
            go_wp2_with fail
            go_ret3
            refine ⟨HB.out, ?_⟩
            rw [HQ.out, HT.out, HE.out, quoted_cut _ _ _ hdc]
            rfl
        · have hd92 : ((d.toNat : Int) == 92) = false := by simp; omega
          have HQL := Lib.hid (quoted_plain c l d (s.data.toList.drop (k + 1)) hdc h92)
          clear h92
          go_wp2_with ((at_builtin; go_must (refine wpList_append_own _ rfl (.tmp 53) (.tmp 57) 37 rfl w.heap.size 5 i0 _ 1 1 Try.underlying37 HI.out HZ0.out HZ1.out HZ2.out rfl (by omega) _ l.length _ rfl (World.ownsRow.alloc HO.out _) ⟨wr.heap.size, 0, none⟩ 1 1 [.int .u8 (d).toNat] rfl rfl (World.news_of_block (cs := #[.int .u8 (d).toNat]) (t := 5) (fr := (0, 0)) (heap_alloc_new wr _)) (by simp [Value.oneCell']) (by unfold maxLen; omega) (by omega) (by simp; omega) ?_); intro v1 w2 hown1 hgrow1 hnn; clear hnn))
          have hb2 := (HB.out.alloc hsz _).grown hgrow1 (by simp; omega) (fun j hj => own_ge HO.out hj)
          have HO1 := Lib.hid hown1
          have HB2 := Lib.hid hb2
          clear hb2 hown1 hgrow1
          go_wp2_with fail
          go_roundw
          case rel => exact ⟨k + 1, l ++ [d], by go_num, by omega, by rw [HQ.out, HT.out, HQL.out], by simp; omega, BOwn.snoc HO1.out rfl rfl, HB2.out⟩
          case measure => simp [intOf]; omega
    · have HE := Lib.hid (show s.data.toList.drop k = [] from List.drop_eq_nil_of_le (by simp; omega))
      go_wp2_with fail
      go_ret3
      refine ⟨HB.out, ?_⟩
      rw [HQ.out, HE.out, quoted_nil]
      rfl
end Go.Proofs.Ytcmdcdjclmpncaa
