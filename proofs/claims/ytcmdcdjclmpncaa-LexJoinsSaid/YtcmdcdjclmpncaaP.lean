/- All tokens, by the reference. No condition. -/
import Derived.Test.YtcmdcdjclmpncaaO
namespace Go.Proofs.Ytcmdcdjclmpncaa
open Go.RowKit
theorem info41 : (Try.prog.info? 41).map (fun i => (i.zero, i.size, i.bytes)) = some (some (.agg #[.int .i64 0, .string ⟨#[]⟩, .int .i64 0]), 3, 32) := by kernel_rfl
theorem lex_same {n : Nat} {acc : List Tok} {l m : List UInt8} (h : l.dropWhile blankB = m.dropWhile blankB) : lexL n acc l = lexL n acc m := by
  cases hl : l.dropWhile blankB with
  | nil => rw [lex_end hl, lex_end (h ▸ hl)]
  | cons c r =>
    have hm := hl
    rw [h] at hm
    cases ho : one (c :: r) with
    | none => rw [lex_bad hl ho, lex_bad hm ho]
    | some p =>
      obtain ⟨k, t, q⟩ := p
      rw [lex_step hl ho, lex_step hm ho]
theorem lex_blank {n : Nat} {acc : List Tok} {c : UInt8} {r : List UInt8} (h : blankB c = true) : lexL n acc (c :: r) = lexL n acc r :=
  lex_same (by rw [List.dropWhile_cons, if_pos h])
def InRTok (s : ByteArray) (w : World) (v i : Value) (wr : World) : Prop :=
  ∃ (k : Nat) (acc : List Tok), i = .int .i64 k ∧ k ≤ s.size ∧ acc.length ≤ k ∧ lexL s.size [] s.data.toList = lexL s.size acc (s.data.toList.drop k) ∧ wr.ownsRow w.heap.size 41 3 v acc.length (tokCells acc) ∧ Below w.heap.size w wr
theorem one_rest {s : ByteArray} {k : Nat} {c : UInt8} {r t q : List UInt8} {kd : Int} (h : s.data.toList.drop k = c :: r) (hc : blankB c = false) (h2 : one (c :: r) = some (kd, t, q)) : s.data.toList.drop (s.size - q.length) = q ∧ k < s.size - q.length ∧ q.length ≤ s.size :=  by
  have h1 : (s.data.toList.drop k).dropWhile blankB = c :: r := by rw [h, List.dropWhile_cons, if_neg (by simp [hc])]
  obtain ⟨a, b⟩ := rest_is h1 h2
  exact ⟨a, b, by omega⟩
set_option maxRecDepth 100000 in
set_option maxHeartbeats 2000000 in
theorem tokens8 (s : ByteArray) (w : World) (hs0 : s.size ≤ 9223372036854775807) : Calls Try.prog 8 #[.string s] w (TokPost s.data.toList w) := by
  obtain ⟨i0, hi, hz0, hz1, hz2⟩ := info_parts info41
  have HI := Lib.hid hi
  have HZ0 := Lib.hid hz0
  have HZ1 := Lib.hid hz1
  have HZ2 := Lib.hid hz2
  clear hi hz0 hz1 hz2
  have hln : s.data.toList.length = s.size := by simp
  have HLN := Lib.hid hln
  clear hln
  by_cases hbig : 65536 < s.size
  · have hbig' : (65536 : Int) < (s.size : Int) := by omega
    have HT : Hid (tokens s.data.toList = (.error 0, 4)) := Lib.hid (by rw [tokens, if_pos (by rw [HLN.out]; exact hbig)])
    clear hbig
    go_enter Try.func8, Try.ntmps8
    go_wp2_with fail
    go_ret3
    refine ⟨Below.refl _ _, ?_⟩
    rw [HT.out]
    rfl
  · have hbig' : ¬ (65536 : Int) < (s.size : Int) := by omega
    have hs : s.size ≤ 65536 := by omega
    have HT : Hid (tokens s.data.toList = finT (lexL s.size [] s.data.toList)) := Lib.hid (by rw [tokens, if_neg (by rw [HLN.out]; exact hbig), HLN.out])
    clear hbig
    go_enter Try.func8, Try.ntmps8
    go_wp2_with fail
    go_loopw [5, 6] (fun v i wr => InRTok s w v i wr) (fun _ i _ => s.size - (intOf i).toNat)
    case atStart =>
      exact ⟨0, [], rfl, Nat.zero_le _, Nat.zero_le _, rfl, World.ownsRow_nil _ _ _ _, Below.refl _ _⟩
    case round =>
      obtain ⟨k, acc, rfl, hk, hacc, hlex, hown, hb⟩ := hrel
      obtain ⟨a, cap, rfl⟩ := own_slice hown
      have HLX := Lib.hid hlex
      have HO := Lib.hid hown
      have HB := Lib.hid hb
      have hsz := hb.size
      clear hlex hown hb
      by_cases hlt : k < s.size
      · obtain ⟨c, hcc⟩ : ∃ c, s[k] = c := ⟨_, rfl⟩
        have hdc := drop_cons s k hlt
        rw [hcc] at hdc
        have HDC := Lib.hid hdc
        clear hdc
        cases hbl : blankB c with
        | true =>
          have HL2 : Hid (lexL s.size acc (s.data.toList.drop k) = lexL s.size acc (s.data.toList.drop (k + 1))) := Lib.hid (by rw [HDC.out, lex_blank hbl])
          have key : ∀ u : Value, u = .int .i64 ((k : Int) + 1) → InRTok s w (.slice a acc.length cap) u wr := by
            rintro _ rfl
            exact ⟨k + 1, acc, by go_num, by omega, by omega, by rw [HLX.out, HL2.out], HO.out, HB.out⟩
          have HKEY := Lib.hid key
          clear key
          by_cases h32 : c.toNat = 32
          · have b32 : ((c.toNat : Int) == 32) = true := by simp; omega
            clear hbl h32
            go_wp2_with fail
            go_roundw
            case rel => exact HKEY.out _ rfl
            case measure => simp [intOf]; omega
          · have b32 : ((c.toNat : Int) == 32) = false := by simp; omega
            by_cases h9 : c.toNat = 9
            · have b9 : ((c.toNat : Int) == 9) = true := by simp; omega
              clear hbl h32 h9
              go_wp2_with fail
              go_roundw
              case rel => exact HKEY.out _ rfl
              case measure => simp [intOf]; omega
            · have b9 : ((c.toNat : Int) == 9) = false := by simp; omega
              have b10 : ((c.toNat : Int) == 10) = true := by simp [blankB, h32, h9] at hbl; simp; omega
              clear hbl h32 h9
              go_wp2_with fail
              go_roundw
              case rel => exact HKEY.out _ rfl
              case measure => simp [intOf]; omega
        | false =>
          have b32 : ((c.toNat : Int) == 32) = false := by simp [blankB] at hbl; simp; omega
          have b9 : ((c.toNat : Int) == 9) = false := by simp [blankB] at hbl; simp; omega
          have b10 : ((c.toNat : Int) == 10) = false := by simp [blankB] at hbl; simp; omega
          have hdw : (s.data.toList.drop k).dropWhile blankB = c :: s.data.toList.drop (k + 1) := by rw [HDC.out, List.dropWhile_cons, if_neg (by simp [hbl])]
          go_wp2_with fail
          refine (rone s k _ (by omega) hlt).mono ?_
          rintro e w1 ⟨hb1, he⟩
          rw [HDC.out] at he
          have HB1 := Lib.hid (HB.out.trans (hb1.mono hsz))
          have HO1 := Lib.hid (HO.out.kept (row := none) ⟨hb1.os, hb1.tape, hb1.output, hb1.size, fun i hi _ => hb1.block i hi⟩ (by cases (Value.slice a acc.length cap).ownBlock <;> simp))
          have hsz1 : w.heap.size ≤ w1.heap.size := HB1.out.size
          cases ho : one (c :: s.data.toList.drop (k + 1)) with
          | none =>
            rw [ho] at he
            obtain ⟨kind, text, at_, z, rfl⟩ := he
            have hpl : s.size - (c :: s.data.toList.drop (k + 1)).length = k := by simp; omega
            have HFIN := Lib.hid (HLX.out.trans (lex_bad hdw ho))
            rw [hpl] at HFIN
            clear hb1 ho hdw hbl hpl
            go_wp2_with fail
            go_ret3
            refine ⟨HB1.out.alloc hsz1 _, ?_⟩
            rw [HT.out, HFIN.out]
            rfl
          | some p =>
            obtain ⟨kind, tx, q⟩ := p
            rw [ho] at he
            simp only at he
            subst he
            have hpl : s.size - (c :: s.data.toList.drop (k + 1)).length = k := by simp; omega
            have HFIN := Lib.hid (HLX.out.trans (lex_step hdw ho))
            rw [hpl] at HFIN
            obtain ⟨hr1, hr2, hr3⟩ := one_rest HDC.out hbl ho
            obtain ⟨k1, hk1⟩ : ∃ k1, s.size - q.length = k1 := ⟨_, rfl⟩
            obtain ⟨txt, htx⟩ : ∃ txt, ofL tx = txt := ⟨_, rfl⟩
            rw [hk1] at hr1 hr2
            rw [htx] at HFIN
            rw [htx, hk1]
            have HR1 := Lib.hid hr1
            have hk1s : k1 ≤ s.size := by omega
            clear hb1 ho hdw hbl hpl hk1 htx hr1 hr3
            go_wp2_with ((at_builtin; go_must (refine wpList_append_own _ rfl (.tmp 45) (.tmp 47) 23 rfl w.heap.size 41 i0 _ 3 32 Try.underlying23 HI.out HZ0.out HZ1.out HZ2.out rfl (by omega) _ acc.length _ rfl ((HO1.out.alloc _).alloc _) ⟨w1.heap.size + 1, 0, none⟩ 1 1 [.int .i64 kind, .string txt, .int .i64 (k : Nat)] rfl rfl (World.news_of_block (cs := #[.int .i64 kind, .string txt, .int .i64 (k : Nat)]) (t := 41) (fr := (0, 0)) (by rw [show w1.heap.size + 1 = (w1.alloc (.cells #[.int .i64 kind, .string txt, .int .i64 (k : Nat)] 41)).heap.size by simp]; exact heap_alloc_new _ _)) (by simp [Value.oneCell']) (by unfold maxLen; omega) (by omega) (by simp; omega) ?_); intro v1 w7 hown1 hgrow1 hnn; clear hnn; have HOW := Lib.hid hown1; have HGR := Lib.hid hgrow1; clear hown1 hgrow1))
            go_wp2_with fail
            have hb7 := ((HB1.out.alloc hsz1 _).alloc (by simp; omega) _).grown HGR.out (by simp; omega) (fun j hj => own_ge HO1.out hj)
            have HB7 := Lib.hid hb7
            clear hb7
            go_roundw
            case rel =>
              refine ⟨k1, acc ++ [(kind, txt, (k : Int))], rfl, hk1s, by simp; omega, ?_, ?_, HB7.out⟩
              · rw [HFIN.out, HR1.out]
              · rw [tokCells_snoc, List.length_append]
                exact HOW.out
            case measure => simp [intOf]; omega
      · have HE := Lib.hid (show s.data.toList.drop k = [] from List.drop_eq_nil_of_le (by simp; omega))
        go_wp2_with fail
        go_ret3
        refine ⟨HB.out, ?_⟩
        rw [HT.out, HLX.out, HE.out, lex_end (by rfl)]
        exact ⟨_, _, rfl, own_toks HO.out⟩
end Go.Proofs.Ytcmdcdjclmpncaa
