/- The walk of LexQuotes. Condition: the bulk that its row takes. -/
import Derived.Test.YtcmdcdjclmpncaaV
namespace Go.Proofs.Ytcmdcdjclmpncaa
open Go.RowKit Go.Deep Go.WideShapes Go.ChangeShapes Go.Joins
open Go.ChangeMaps (open_string)
theorem qtext_len (q : UInt8) (l : List UInt8) : (qtext q l).length ≤ 2 * l.length + 2 := by
  have := qbody_le q l
  simp [qtext]
  omega
theorem tokens_quoted2 (s : ByteArray) (hs : s.size ≤ 30000) : tokens (qtext 34 s.data.toList) = (.ok [(2, s, 0)], 0) := by
  have hl := qtext_len 34 s.data.toList
  have e : s.data.toList.length = s.size := by simp
  refine tokens_ok ?_ (by omega)
  have h1 := one_quoted 34 (by decide) s.data.toList []
  rw [List.append_nil] at h1
  have h0 : (qtext 34 s.data.toList).dropWhile blankB = qtext 34 s.data.toList := by
    unfold qtext
    rw [List.dropWhile_cons, if_neg (by decide)]
  rw [lex_step (h0.trans rfl) h1, lex_end rfl]
  have e2 : ((qtext 34 s.data.toList).length - (34 :: (qbody 34 s.data.toList ++ [34])).length) = 0 := Nat.sub_self _
  rw [e2]
  simp [ofL]
theorem tokens_quoted4 (s : ByteArray) (hs : s.size ≤ 30000) : tokens (32 :: (qtext 39 s.data.toList ++ [10])) = (.ok [(4, s, 1)], 0) := by
  have hl := qtext_len 39 s.data.toList
  have e : s.data.toList.length = s.size := by simp
  refine tokens_ok ?_ (by simp; omega)
  have h1 := one_quoted 39 (by decide) s.data.toList [10]
  have h0 : (32 :: (qtext 39 s.data.toList ++ [10])).dropWhile blankB = qtext 39 s.data.toList ++ [10] := by
    rw [List.dropWhile_cons, if_pos (by decide)]
    unfold qtext
    rw [List.cons_append, List.dropWhile_cons, if_neg (by decide)]
  rw [lex_step (h0.trans rfl) h1, lex_end (by decide)]
  have e2 : ((32 :: (qtext 39 s.data.toList ++ [10])).length - (39 :: (qbody 39 s.data.toList ++ [39]).append [10]).length) = 1 := by simp [qtext]
  rw [e2]
  simp [ofL]
theorem ofL_list (l : List UInt8) : (ofL l).data.toList = l := by simp [ofL]
theorem ofL_size (l : List UInt8) : (ofL l).size = l.length := by simp [ofL, ByteArray.size]
set_option maxHeartbeats 2000000 in
theorem lexQuotes_walk (H : Type) (enc : TypeId × Value → H) (W : World) (base : Nat) (v0 v1 : Value) (d0 d1 : DataW H) (p0 p1 : List MemPlace) (h0 : DataW.Trod enc Try.prog W 0 (fun _ => true) true 9 v0 d0 p0) (o0 : Value.okWide Try.prog W .any base 9 v0) (h1 : DataW.Trod enc Try.prog W 0 (fun _ => true) true 5 v1 d1 p1) (o1 : Value.okWide Try.prog W .any base 5 v1) (hk : Rows.uptoSmall H [d0, d1] = true) :
    Calls Try.prog 6 #[v0, v1] W fun e w' => e = .returned (.bool true) ∧ Below W.heap.size W w' := by
  obtain ⟨s, rfl, rfl, _, hs0⟩ := open_string Try.underlying9 o0 h0
  obtain ⟨n, rfl, rfl, rfl, wn⟩ := open_int Try.underlying5 o1 h1
  have hs : s.size ≤ 1048576 := by
    have h2 : Rows.uptoBulkAll [DataW.lit (H := H) (.string s.data.toList), .lit (.int .u8 n)] ≤ 1048576 := of_decide_eq_true hk
    simp only [Rows.uptoBulkAll, Rows.uptoBulk] at h2
    have h3 : s.data.toList.length = s.size := by simp
    omega
  obtain ⟨q, rfl⟩ : ∃ q : UInt8, n = (q.toNat : Int) := by
    have hn : 0 ≤ n ∧ n ≤ 255 := by
      simp only [Lit.wf, Bool.and_eq_true, decide_eq_true_eq] at wn
      exact wn
    refine ⟨UInt8.ofNat n.toNat, ?_⟩
    rw [UInt8.toNat_ofNat']
    omega
  clear h0 o0 h1 o1 hk wn
  go_enter Try.func6, Try.ntmps6
  go_wp2_with fail
  refine (awake7 _).mono ?_
  rintro e w1 ⟨rfl, hb⟩
  have HB1 := Lib.hid hb
  clear hb
  go_wp2_with fail
  refine (quote12 q s _ hs).mono ?_
  rintro e w2 ⟨rfl, hb⟩
  have HB2 := Lib.hid (HB1.out.trans (hb.mono HB1.out.size))
  clear hb
  obtain ⟨qq, hqq⟩ : ∃ qq, ofL (qtext q s.data.toList) = qq := ⟨_, rfl⟩
  rw [hqq]
  have HQQ := Lib.hid hqq
  clear hqq
  go_wp2_with fail
  refine (quote13 q s _ hs).mono ?_
  rintro e w3 ⟨rfl, hb⟩
  have HB3 := Lib.hid (HB2.out.trans (hb.mono HB2.out.size))
  clear hb
  rw [HQQ.out]
  by_cases hbig : 30000 < s.size
  · have hbig' : (30000 : Int) < (s.size : Int) := by omega
    go_wp2_with fail
    go_ret
    exact ⟨rfl, HB3.out⟩
  · have hbig' : ¬ (30000 : Int) < (s.size : Int) := by omega
    have HT2 := Lib.hid (tokens_quoted2 s (by omega))
    have HT4 := Lib.hid (tokens_quoted4 s (by omega))
    have hl2 := qtext_len 34 s.data.toList
    have hl4 := qtext_len 39 s.data.toList
    have hls : s.data.toList.length = s.size := by simp
    rw [hls] at hl2 hl4
    clear hls
    go_wp2_with fail
    refine (quote12 34 s _ hs).mono ?_
    rintro e w4 ⟨rfl, hb⟩
    have HB4 := Lib.hid (HB3.out.trans (hb.mono HB3.out.size))
    clear hb
    go_wp2_with fail
    refine (tokens9 (ofL (qtext 34 s.data.toList)) _ (by rw [ofL_size]; omega)).mono ?_
    intro e w5 hp
    rw [ofL_list] at hp
    obtain ⟨a, cap, rfl, hta, hb⟩ := tokPost_cases hp
    rw [HT2.out] at hta ⊢
    have HTA := Lib.hid hta
    have HB5 := Lib.hid (HB4.out.trans (hb.mono HB4.out.size))
    clear hp hta hb
    go_wp2_with fail
    refine (quote12 39 s _ hs).mono ?_
    rintro e w6 ⟨rfl, hb⟩
    have HTA6 := Lib.hid (HTA.out.later hb)
    have HB6 := Lib.hid (HB5.out.trans (hb.mono HB5.out.size))
    clear hb
    obtain ⟨T4, hT4⟩ : ∃ T4, ofL (qtext 39 s.data.toList) = T4 := ⟨_, rfl⟩
    have hz4 : T4.size ≤ 60002 := by rw [← hT4, ofL_size]; omega
    have HD : Hid (({ data := #[32] } ++ T4 ++ { data := #[10] } : ByteArray).data.toList = 32 :: (qtext 39 s.data.toList ++ [10])) := Lib.hid (by rw [← hT4]; simp [ByteArray.data_append, ofL])
    rw [hT4]
    clear hT4
    go_wp2_with fail
    with_reducible refine (tokens9 ({ data := #[32] } ++ T4 ++ { data := #[10] }) _ (by rw [ByteArray.size_append, ByteArray.size_append, show (⟨#[32]⟩ : ByteArray).size = 1 from rfl, show (⟨#[10]⟩ : ByteArray).size = 1 from rfl]; omega)).mono ?_
    intro e w7 hp
    rw [HD.out] at hp
    obtain ⟨b, cbp, rfl, htb, hb⟩ := tokPost_cases hp
    rw [HT4.out] at htb ⊢
    obtain ⟨b1, off1, ha, hbw1, x0, x1, x2⟩ := (HTA6.out.later hb) 0 Nat.zero_lt_one
    obtain ⟨b2, off2, hb', hbw2, y0, y1, y2⟩ := htb 0 Nat.zero_lt_one
    subst ha
    subst hb'
    have x0 : w7.cell? ⟨b1, off1, none⟩ = some (.int .i64 2) := x0
    have x1 : w7.cell? ⟨b1, off1 + 1, none⟩ = some (.string s) := x1
    have x2 : w7.cell? ⟨b1, off1 + 2, none⟩ = some (.int .i64 0) := x2
    have y0 : w7.cell? ⟨b2, off2, none⟩ = some (.int .i64 4) := y0
    have y1 : w7.cell? ⟨b2, off2 + 1, none⟩ = some (.string s) := y1
    have y2 : w7.cell? ⟨b2, off2 + 2, none⟩ = some (.int .i64 1) := y2
    have HB7 := Lib.hid (HB6.out.trans (hb.mono HB6.out.size))
    rw [show (tokL (Except.ok [(2, s, 0)], 0)).length = 1 from rfl, show (tokL (Except.ok [(4, s, 1)], 0)).length = 1 from rfl]
    clear hp hb htb
    go_wp2_with fail
    go_ret
    exact ⟨rfl, HB7.out⟩
end Go.Proofs.Ytcmdcdjclmpncaa
