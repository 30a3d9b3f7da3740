/- The walk of LexJoins. No condition. -/
import Derived.Test.YtcmdcdjclmpncaaW
namespace Go.Proofs.Ytcmdcdjclmpncaa
open Go.RowKit Go.Deep Go.WideShapes Go.ChangeShapes Go.Joins
open Go.ChangeMaps (open_string)
theorem lex_at : ∀ (m : Nat) {n : Nat} {acc L : List Tok} {l : List UInt8}, l.length ≤ m → lexL n acc l = .ok L → (∀ t ∈ acc, 0 ≤ t.2.2 ∧ t.2.2 ≤ n) → ∀ t ∈ L, 0 ≤ t.2.2 ∧ t.2.2 ≤ n := by
  intro m
  induction m with
  | zero =>
    intro n acc L l hm h ha
    have : l = [] := List.eq_nil_of_length_eq_zero (by omega)
    subst this
    rw [lex_end rfl] at h
    cases h
    exact ha
  | succ m ih =>
    intro n acc L l hm h ha
    cases hl : l.dropWhile blankB with
    | nil => rw [lex_end hl] at h; cases h; exact ha
    | cons c r =>
      have hd := dw_len blankB l
      rw [hl] at hd
      cases ho : one (c :: r) with
      | none => rw [lex_bad hl ho] at h; cases h
      | some p =>
        obtain ⟨k, t, q⟩ := p
        rw [lex_step hl ho] at h
        have h1 := one_len ho
        refine ih (by omega) h ?_
        intro t ht
        rcases List.mem_append.1 ht with ht | ht
        · exact ha t ht
        · simp at ht
          subst ht
          simp only
          omega
theorem tokAt_left {A B : List Tok} {k : Nat} (h : k < A.length) : tokAt (A ++ B) k = tokAt A k := by
  rw [tokAt_get (by simp; omega), tokAt_get h, List.getElem_append_left h]
theorem tokAt_right {A B : List Tok} {d k : Nat} (h : ¬ k < A.length) (h2 : k - A.length < B.length) : tokAt (A ++ B.map (shift d)) k = shift d (tokAt B (k - A.length)) := by
  rw [tokAt_get (by simp; omega), tokAt_get h2, List.getElem_append_right (by omega)]
  simp
def InJoin (n : Nat) (w : World) (i : Value) (wr : World) (w0 : World) : Prop := ∃ k : Nat, k ≤ n ∧ i = .int .i64 k ∧ Below w.heap.size w wr ∧ Below w0.heap.size w0 wr
set_option maxRecDepth 100000 in
set_option maxHeartbeats 4000000 in
theorem lexJoins_walk (H : Type) (enc : TypeId × Value → H) (W : World) (base : Nat) (v0 v1 : Value) (d0 d1 : DataW H) (p0 p1 : List MemPlace) (h0 : DataW.Trod enc Try.prog W 0 (fun _ => true) true 9 v0 d0 p0) (o0 : Value.okWide Try.prog W .any base 9 v0) (h1 : DataW.Trod enc Try.prog W 0 (fun _ => true) true 9 v1 d1 p1) (o1 : Value.okWide Try.prog W .any base 9 v1) :
    Calls Try.prog 4 #[v0, v1] W fun e w' => e = .returned (.bool true) ∧ Below W.heap.size W w' := by
  obtain ⟨a, rfl, rfl, _, ha0⟩ := open_string Try.underlying9 o0 h0
  obtain ⟨b, rfl, rfl, _, hb0⟩ := open_string Try.underlying9 o1 h1
  unfold maxLen at ha0 hb0
  clear h0 o0 h1 o1
  go_enter Try.func4, Try.ntmps4
  go_wp2_with fail
  refine (awake7 _).mono ?_
  rintro e w1 ⟨rfl, hb⟩
  have HB1 := Lib.hid hb
  clear hb
  go_wp2_with fail
  with_reducible refine (tokens9 a _ ha0).mono ?_
  intro e w2 hp
  obtain ⟨xa, xc, rfl, htx, hb⟩ := tokPost_cases hp
  have HTX := Lib.hid htx
  have HB2 := Lib.hid (HB1.out.trans (hb.mono HB1.out.size))
  clear hp htx hb
  go_wp2_with fail
  with_reducible refine (tokens9 b _ hb0).mono ?_
  intro e w3 hp
  obtain ⟨ya, yc, rfl, hty, hb⟩ := tokPost_cases hp
  have HTX3 := Lib.hid (HTX.out.later hb)
  have HTY3 := Lib.hid hty
  have HB3 := Lib.hid (HB2.out.trans (hb.mono HB2.out.size))
  clear hp hty hb
  by_cases hea : (tokens a.data.toList).2 = 0
  · by_cases heb : (tokens b.data.toList).2 = 0
    · obtain ⟨La, hta, hla⟩ := tokens_err0 hea
      obtain ⟨Lb, htb, hlb⟩ := tokens_err0 heb
      have hsa : a.size ≤ 65536 := by
        have h := hea
        unfold tokens at h
        split at h
        · cases h
        · rename_i h'; simp at h'; omega
      have hsb : b.size ≤ 65536 := by
        have h := heb
        unfold tokens at h
        split at h
        · cases h
        · rename_i h'; simp at h'; omega
      have hnla := lex_len _ (Nat.le_refl _) hla
      have hnlb := lex_len _ (Nat.le_refl _) hlb
      have hatb := lex_at _ (Nat.le_refl _) hlb (fun t ht => by cases ht)
      have hLa : a.data.toList.length = a.size := by simp
      have hLb : b.data.toList.length = b.size := by simp
      rw [hLa] at hnla
      rw [hLb] at hnlb hatb
      have HATB := Lib.hid hatb
      have HTXX := HTX3.out
      have HTYY := HTY3.out
      rw [hta] at HTXX ⊢
      rw [htb] at HTYY ⊢
      have ea : tokL (Except.ok La, 0) = La := rfl
      have eb : tokL (Except.ok Lb, 0) = Lb := rfl
      have pa : tokP (Except.ok La, 0) = 0 := rfl
      have pb : tokP (Except.ok Lb, 0) = 0 := rfl
      rw [ea] at HTXX ⊢
      rw [eb] at HTYY ⊢
      rw [pa, pb]
      have HX := Lib.hid HTXX
      have HY := Lib.hid HTYY
      have HJ : Hid (a.data.toList.length + b.data.toList.length ≤ 65000 → tokens (a.data.toList ++ 32 :: b.data.toList) = (.ok (La ++ Lb.map (shift (a.data.toList.length + 1))), 0)) := Lib.hid (tokens_join hta htb)
      rw [hLa, hLb] at HJ
      simp only [List.length_nil, Nat.zero_add] at hnla hnlb
      clear hea heb hla hlb hta htb ea eb pa pb HTXX HTYY HTX HTX3 HTY3 hatb hLa hLb
      by_cases hbig : 65000 < a.size + b.size
      · have hbig' : (65000 : Int) < (a.size : Int) + (b.size : Int) := by omega
        go_wp2_with fail
        go_ret
        exact ⟨rfl, HB3.out⟩
      · have hbig' : ¬ (65000 : Int) < (a.size : Int) + (b.size : Int) := by omega
        have HJ2 := Lib.hid (HJ.out (by omega))
        have HD : Hid ((a ++ { data := #[32] } ++ b : ByteArray).data.toList = a.data.toList ++ 32 :: b.data.toList) := Lib.hid (by simp [ByteArray.data_append])
        go_wp2_with fail
        with_reducible refine (tokens9 (a ++ { data := #[32] } ++ b) _ (by rw [ByteArray.size_append, ByteArray.size_append, show (⟨#[32]⟩ : ByteArray).size = 1 from rfl]; omega)).mono ?_
        intro e w4 hp
        rw [HD.out] at hp
        obtain ⟨za, zc, rfl, htz, hb⟩ := tokPost_cases hp
        rw [HJ2.out] at htz ⊢
        obtain ⟨L, hL⟩ : ∃ L, La ++ Lb.map (shift (a.size + 1)) = L := ⟨_, rfl⟩
        rw [hL] at htz ⊢
        rw [show tokL (Except.ok L, 0) = L from rfl] at htz ⊢
        rw [show tokP (Except.ok L, 0) = 0 from rfl]
        have hLn : L.length = La.length + Lb.length := by rw [← hL]; simp
        have HLL := Lib.hid hL
        have HX4 := Lib.hid (HX.out.later hb)
        have HY4 := Lib.hid (HY.out.later hb)
        have HZ4 := Lib.hid htz
        have HB4 := Lib.hid (HB3.out.trans (hb.mono HB3.out.size))
        obtain ⟨n, hn⟩ : ∃ n, L.length = n := ⟨_, rfl⟩
        obtain ⟨na, hna⟩ : ∃ na, La.length = na := ⟨_, rfl⟩
        obtain ⟨nb, hnb⟩ : ∃ nb, Lb.length = nb := ⟨_, rfl⟩
        rw [hna] at hnla
        rw [hnb] at hnlb
        have hnn : n = na + nb := by omega
        have hne : ((n : Int) != (na : Int) + (nb : Int)) = false := by simp; omega
        rw [hn, hna, hnb]
        have HN := Lib.hid (And.intro hn (And.intro hna hnb))
        have hnle : n ≤ na + nb ∧ na + nb ≤ n := by omega
        clear hp htz hb hL hLn hn hna hnb hnn
        go_wp2_with fail
        clear hne
        go_loopw [67] (fun i wr => InJoin n W i wr w4) (fun i _ => n - (intOf i).toNat)
        case atStart => exact ⟨0, Nat.zero_le _, rfl, HB4.out, Below.refl _ _⟩
        case round =>
          obtain ⟨k, hk, rfl, hb, hb4⟩ := hrel
          have HB := Lib.hid hb
          have HBB := Lib.hid hb4
          have hsz := hb.size
          have hsz4 := hb4.size
          clear hb hb4
          by_cases hlt : k < n
          · obtain ⟨bz, oz, hz, hbz, z0, z1, z2⟩ := HZ4.out k (by rw [HN.out.1]; exact hlt)
            subst hz
            have e0 : wr.cell? ⟨bz, oz + k * 3, none⟩ = _ := (HBB.out.cell hbz).trans z0
            have e1 : wr.cell? ⟨bz, oz + k * 3 + 1, none⟩ = _ := (HBB.out.cell hbz).trans z1
            have e2 : wr.cell? ⟨bz, oz + k * 3 + 2, none⟩ = _ := (HBB.out.cell hbz).trans z2
            have hbzr : bz < wr.heap.size := Nat.lt_of_lt_of_le hbz HBB.out.size
            have hi0 : (0 : Int) ≤ (k : Int) := by omega
            have hi1 : (k : Int) < (n : Int) := by omega
            clear z0 z1 z2
            by_cases hka : k < na
            · obtain ⟨bx, ox, hx, hbx, x0, x1, x2⟩ := HX4.out k (by rw [HN.out.2.1]; exact hka)
              subst hx
              have f0 : wr.cell? ⟨bx, ox + k * 3, none⟩ = _ := (HBB.out.cell hbx).trans x0
              have f1 : wr.cell? ⟨bx, ox + k * 3 + 1, none⟩ = _ := (HBB.out.cell hbx).trans x1
              have f2 : wr.cell? ⟨bx, ox + k * 3 + 2, none⟩ = _ := (HBB.out.cell hbx).trans x2
              have hbxr : bx < wr.heap.size := Nat.lt_of_lt_of_le hbx HBB.out.size
              rw [← HLL.out, tokAt_left (by rw [HN.out.2.1]; exact hka)] at e0 e1 e2
              generalize (tokAt La k).1 = y0 at *
              generalize (tokAt La k).2.1 = y1 at *
              generalize (tokAt La k).2.2 = y2 at *
              have hka' : (k : Int) < (na : Int) := by omega
              clear x0 x1 x2
              go_wp2_with fail
              go_quiet (fail)
              go_wp2
              refine ⟨⟨k + 1, hlt, by go_num, below_drewN (HB.out.alloc hsz _) _, below_drewN (HBB.out.alloc hsz4 _) _⟩, ?_⟩
              simp [intOf]; omega
            · obtain ⟨j, hj⟩ : ∃ j : Nat, k - na = j := ⟨_, rfl⟩
              have hjb : j < nb := by omega
              have hjk : (k : Int) - (na : Int) = (j : Int) := by omega
              obtain ⟨bx, ox, hx, hbx, x0, x1, x2⟩ := HY4.out j (by rw [HN.out.2.2]; exact hjb)
              subst hx
              have f0 : wr.cell? ⟨bx, ox + j * 3, none⟩ = _ := (HBB.out.cell hbx).trans x0
              have f1 : wr.cell? ⟨bx, ox + j * 3 + 1, none⟩ = _ := (HBB.out.cell hbx).trans x1
              have f2 : wr.cell? ⟨bx, ox + j * 3 + 2, none⟩ = _ := (HBB.out.cell hbx).trans x2
              have hbxr : bx < wr.heap.size := Nat.lt_of_lt_of_le hbx HBB.out.size
              have hat := HATB.out (tokAt Lb j) (by rw [tokAt_get (by rw [HN.out.2.2]; exact hjb)]; exact List.getElem_mem _)
              rw [← HLL.out, tokAt_right (by rw [HN.out.2.1]; exact hka) (by rw [HN.out.2.1, HN.out.2.2]; omega)] at e0 e1 e2
              rw [HN.out.2.1, hj] at e0 e1 e2
              replace e2 : wr.cell? ⟨bz, oz + k * 3 + 2, none⟩ = some (.int .i64 ((tokAt Lb j).2.2 + (a.size : Int) + 1)) := by
                rw [e2]
                congr 2
                show (tokAt Lb j).2.2 + ((a.size + 1 : Nat) : Int) = _
                omega
              replace e0 : wr.cell? ⟨bz, oz + k * 3, none⟩ = some (.int .i64 (tokAt Lb j).1) := e0
              replace e1 : wr.cell? ⟨bz, oz + k * 3 + 1, none⟩ = some (.string (tokAt Lb j).2.1) := e1
              generalize (tokAt Lb j).1 = y0 at *
              generalize (tokAt Lb j).2.1 = y1 at *
              generalize (tokAt Lb j).2.2 = y2 at *
              have hka' : ¬ (k : Int) < (na : Int) := by omega
              have hj0 : (0 : Int) ≤ (j : Int) := by omega
              have hj1 : (j : Int) < (nb : Int) := by omega
              obtain ⟨hat0, hat1⟩ := hat
              obtain ⟨zz, hzz⟩ : ∃ zz : Int, y2 + (a.size : Int) + 1 = zz := ⟨_, rfl⟩
              rw [hzz] at e2
              clear x0 x1 x2 hj
              go_wp2_with fail
              go_quiet (fail)
              go_wp2
              refine ⟨⟨k + 1, hlt, by go_num, below_drewN (HB.out.alloc hsz _) _, below_drewN (HBB.out.alloc hsz4 _) _⟩, ?_⟩
              simp [intOf]; omega
          · go_wp2_with fail
            go_ret
            exact ⟨rfl, HB.out⟩
    · have hne : ((tokens b.data.toList).2 != 0) = true := by simpa using heb
      have hea' : ((tokens a.data.toList).2 != 0) = false := by simpa using hea
      clear hea heb
      go_wp2_with fail
      go_ret
      exact ⟨rfl, HB3.out⟩
  · have hne : ((tokens a.data.toList).2 != 0) = true := by simpa using hea
    clear hea
    go_wp2_with fail
    go_ret
    exact ⟨rfl, HB3.out⟩
end Go.Proofs.Ytcmdcdjclmpncaa
