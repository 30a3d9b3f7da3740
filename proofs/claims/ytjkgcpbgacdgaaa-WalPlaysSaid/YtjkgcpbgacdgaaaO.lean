/- The walk of DiskFuses. No condition. -/
import Derived.Test.YtjkgcpbgacdgaaaN
namespace Go.Proofs.Ytjkgcpbgacdgaaa
open Go.RowKit Go.Sort Go.Deep Go.WideShapes Go.ChangeShapes Go.Joins
def InFuse (W : World) (d m n : Nat) (i : Value) (wr : World) : Prop :=
  ∃ (k : Nat) (S : Nat → Prop) (L : List Ent), k ≤ n + 3 ∧ i = .int .i64 k ∧ DiskAt wr S d m L 1048576 (fzF n k) (fzD n k) ∧ (∀ x, S x → W.heap.size ≤ x ∧ x < wr.heap.size) ∧ One L ∧ Good L ∧ lens L ≤ 100 * k ∧ Below W.heap.size W wr
theorem SrcAt.later {w w' : World} {S : Nat → Prop} {src : Value} {xs : List Value} (h : SrcAt w S src xs) (hb : Below w.heap.size w w') : SrcAt w' S src xs := h.kept (Turns.of_below hb)
theorem noName : nameB nmE.data.toList = false := by decide
theorem app_none {L L' : List Ent} {room fuse : Int} {down : Bool} {xs : List Value} {j : Nat} {err : Int} (hsays : AppSays L room fuse down nmE xs L' j err) : L' = L ∧ apF fuse down nmE = fuse ∧ apD fuse down nmE = down := by
  have h2 := noName
  refine ⟨?_, by simp [apF, h2], by simp [apD, h2]⟩
  rcases hsays with ⟨_, h, _⟩ | ⟨_, _, h, _⟩ | ⟨_, h1, _⟩ | ⟨_, h1, _⟩
  · exact h
  · exact h
  · rw [h2] at h1; cases h1
  · rw [h2] at h1; cases h1
theorem sync_none {L : List Ent} (h : One L) (fuse : Int) (down : Bool) : syncL L fuse down nmN = L ∧ chF L fuse down nmN = fuse ∧ chD L fuse down nmN = down := by
  have h1 := h.lookN
  have h2 : (getE L down nmN).2 ≠ 0 := by unfold getE; split <;> simp [h1]
  refine ⟨?_, by simp [chF, h2], by simp [chD, h2]⟩
  simp [syncL, chE, h2]
theorem fzF_le {n k : Nat} (h : k ≤ n) : fzF n k = (n : Int) - k := by simp [fzF, h]
theorem fzF_gt {n k : Nat} (h : n ≤ k) : fzF n k = 0 := by
  unfold fzF
  split
  · omega
  · rfl
theorem fzD_le {n k : Nat} (h : k ≤ n) : fzD n k = false := by simp [fzD]; omega
theorem fzD_gt {n k : Nat} (h : n < k) : fzD n k = true := by simp [fzD]; omega
theorem fuse_next (n k : Nat) : apF (fzF n k) (fzD n k) nmA = fzF n (k + 1) ∧ apD (fzF n k) (fzD n k) nmA = fzD n (k + 1) := by
  have h := nameA
  unfold apF apD opF opD
  simp only [h, Bool.not_true, Bool.or_false]
  by_cases h1 : n < k
  · rw [fzD_gt h1, fzF_gt (by omega), fzF_gt (by omega), fzD_gt (by omega)]
    exact ⟨rfl, rfl⟩
  · rw [fzD_le (by omega)]
    by_cases h2 : k = n
    · subst h2
      rw [fzF_gt (Nat.le_refl _), fzF_gt (by omega), fzD_gt (by omega)]
      exact ⟨rfl, rfl⟩
    · rw [fzF_le (by omega), fzF_le (by omega), fzD_le (by omega)]
      have : ¬ ((n : Int) - k = 0) := by omega
      rw [if_neg this, if_neg this]
      refine ⟨?_, rfl⟩
      simp
      omega
theorem app_fuse {L L' : List Ent} {n k : Nat} {l : List UInt8} {j : Nat} {err : Int} (hl : l.length ≤ 100) (h : One L) (hG : Good L) (hle : lens L ≤ 100 * k) (hk : k ≤ 300) (hsays : AppSays L 1048576 (fzF n k) (fzD n k) nmA (Lib.byteCells l) L' j err) :
    One L' ∧ Good L' ∧ lens L' ≤ 100 * (k + 1) ∧ err = if k < n then 0 else 8 := by
  have hn := nameA
  have hop : opE (fzF n k) = if k < n then 0 else 8 := by
    unfold opE
    by_cases h3 : k < n
    · rw [fzF_le (by omega), if_pos h3, if_neg (by omega)]
    · rw [fzF_gt (by omega), if_neg h3, if_pos rfl]
  rcases hsays with ⟨h1, rfl, _, rfl⟩ | ⟨_, h1, _⟩ | ⟨h0, _, h1, rfl, _, rfl⟩ | ⟨h0, _, h1, hj, he, f, v, hL⟩
  · refine ⟨h, hG, by omega, ?_⟩
    have : n < k := by simpa [fzD] using h1
    rw [if_neg (by omega)]
  · rw [hn] at h1; cases h1
  · exact ⟨h, hG, by omega, hop⟩
  · have h3 : k < n := by
      rcases Nat.lt_or_ge k n with h3 | h3
      · exact h3
      · rw [hop, if_neg (by omega)] at h1; cases h1
    have hbl : (Lib.byteCells l).length = l.length := Lib.byteCells_length l
    have hjl : j = l.length := by rw [hj, hbl]; unfold appN; omega
    rw [hbl] at he
    rw [he, if_neg (by omega), if_pos h3]
    subst hjl
    rw [← hbl, List.take_length] at hL
    obtain ⟨a1, a2, a3⟩ := h.addG hG f v l (by omega)
    rw [hL]
    exact ⟨a1, a2, by rw [a3]; omega, rfl⟩
set_option maxRecDepth 100000 in
set_option maxHeartbeats 1000000 in
theorem diskFuses_walk (H : Type) (enc : TypeId × Value → H) (W : World) (base : Nat) (v0 v1 : Value) (d0 d1 : DataW H) (p0 p1 : List MemPlace) (h0 : DataW.Trod enc Try.prog W 0 (fun _ => true) true 5 v0 d0 p0) (o0 : Value.okWide Try.prog W .any base 5 v0) (h1 : DataW.Trod enc Try.prog W 0 (fun _ => true) true 23 v1 d1 p1) (o1 : Value.okWide Try.prog W .any base 23 v1) :
    Calls Try.prog 6 #[v0, v1] W fun e w' => e = .returned (.bool true) ∧ Below W.heap.size W w' := by
  obtain ⟨r, rfl, rfl, rfl, wr0⟩ := open_int Try.underlying5 o0 h0
  obtain ⟨a, cap, l, rfl, hlc, hlm, hsrc⟩ := bytes_src h1 o1
  have hr : 0 ≤ r ∧ r ≤ 255 := by simpa [Lit.wf, IntKind.min, IntKind.max, IntKind.signed, IntKind.bits] using wr0
  obtain ⟨n, rfl⟩ : ∃ n : Nat, r = (n : Int) := ⟨r.toNat, by omega⟩
  have hn : n ≤ 255 := by omega
  have hwr : IntKind.i64.wrap (n : Int) = (n : Int) := by simp only [IntKind.wrap, IntKind.bits, IntKind.signed]; simp; omega
  obtain ⟨N, hN⟩ : ∃ N, l.length = N := ⟨_, rfl⟩
  have HSRC := Lib.hid hsrc
  have HNN := Lib.hid hN
  rw [hN] at hlc hlm ⊢
  clear h0 o0 h1 o1 hsrc wr0 hN hr
  unfold maxLen at hlm
  have hsl := run_slice_to a N cap 100 100 rfl
  obtain ⟨M, hM⟩ : ∃ M, min N 100 = M := ⟨_, rfl⟩
  have HSRC2 := Lib.hid (show ∀ S, (∀ x, S x → W.heap.size ≤ x) → SrcAt W S (.slice a M cap) (Lib.byteCells (l.take M)) from fun S hS => by
    have h := HSRC.out S hS
    rw [HNN.out] at h
    rcases h with ⟨h1, h2⟩ | ⟨ad, c', h1, h2, h3, h4, h5, h6⟩
    · injection h1 with e1 e2 e3
      subst e1 e2 e3
      have : M = 0 := by omega
      subst this
      exact .inl ⟨rfl, by simp [Lib.byteCells]⟩
    · injection h1 with e1 e2 e3
      subst e1 e3
      have hb : (Lib.byteCells l).length = N := by rw [Lib.byteCells_length, HNN.out]
      have hb2 : (Lib.byteCells (l.take M)).length = M := by rw [Lib.byteCells_length, List.length_take, HNN.out]; omega
      refine .inr ⟨ad, cap, by rw [hb2], by omega, fun hne => h3 (by intro he; apply hne; rw [← byteCells_take, he]; simp), fun hne => h4 (by intro he; apply hne; rw [← byteCells_take, he]; simp), fun j u hj => ?_, fun u hu => ?_⟩
      · rw [← byteCells_take, List.getElem?_take] at hj
        split at hj
        · exact h5 j u hj
        · cases hj
      · rw [← byteCells_take] at hu
        exact h6 u (List.mem_of_mem_take hu))
  have HML := Lib.hid (show (l.take M).length = M by rw [List.length_take, HNN.out]; omega)
  have hM1 : M ≤ 100 := by omega
  have hM2 : M ≤ cap := by omega
  obtain ⟨k, hk⟩ : ∃ k, l.take M = k := ⟨_, rfl⟩
  rw [hk] at HSRC2 HML
  clear HSRC HNN hk
  go_enter Try.func6, Try.ntmps6
  go_wp2_with fail
  refine (awake9 _).mono ?_
  rintro e w1 ⟨rfl, hb⟩
  have HB1 := Lib.hid hb
  clear hb
  by_cases hc : 100 < N
  · go_wp2_with fail
    rw [show Value.slice a 100 cap = Value.slice a M cap by congr 1; omega]
    clear hc hsl
    go_wp2_with fail
    with_reducible refine (new 1048576 _ (by omega)).mono ?_
    rintro e w2 ⟨rfl, hd2, hb2, hs2⟩
    have hmx : max (1048576 : Int) 0 = 1048576 := by omega
    rw [hmx] at hd2
    have HD2 := Lib.hid hd2
    have HB2 := Lib.hid (HB1.out.trans (hb2.mono HB1.out.size))
    have HS2 := Lib.hid hs2
    clear hd2 hb2 hs2 hmx
    go_wp2_with fail
    with_reducible refine (setFuse _ _ _ _ _ _ _ _ _ HD2.out).mono ?_
    rintro e w3 ⟨rfl, ho3, hd3⟩
    have hmx : max (n : Int) (-1) = fzF n 0 := by rw [fzF_le (Nat.zero_le _)]; omega
    have hdz : false = fzD n 0 := by rw [fzD_le (Nat.zero_le _)]
    rw [hmx, hdz] at hd3
    have hlt : w1.heap.size < w3.heap.size ∧ w1.heap.size + 1 < w3.heap.size := by have h := HS2.out; have h2 := ho3.2.2.2.1; omega
    have HD3 := Lib.hid hd3
    have HB3 := Lib.hid (show Below W.heap.size W w3 from HB2.out.trans ((show Turns (fun k => k = w1.heap.size ∨ k = w1.heap.size + 1) w2 w3 from ho3.turns (.inr rfl)).below HB2.out.size (fun x hx => by have := HB1.out.size; rcases hx with rfl | rfl <;> omega)))
    have HL3 := Lib.hid hlt
    clear hd3 ho3 hmx hdz hlt
    obtain ⟨d, hd⟩ : ∃ d, w1.heap.size + 1 = d := ⟨_, rfl⟩
    obtain ⟨m, hm⟩ : ∃ m, w1.heap.size = m := ⟨_, rfl⟩
    rw [hd, hm] at HD3
    rw [hd]
    have HM := Lib.hid hm
    have HDD := Lib.hid hd
    clear hm hd
    go_wp2_with fail
    go_loopw [28] (fun i wr => InFuse W d m n i wr) (fun i _ => n + 3 - (intOf i).toNat)
    case atStart => exact ⟨0, _, [], Nat.zero_le _, rfl, HD3.out, fun x hx => by have := HL3.out; have := HB1.out.size; have := HM.out; have := HDD.out; rcases hx with rfl | rfl <;> omega, .inl rfl, Good.nil, by simp [lens], HB3.out⟩
    case round =>
      obtain ⟨j, S, L, hj, rfl, hd, hS, hone, hgood, hle, hb⟩ := hrel
      have HD := Lib.hid hd
      have HSS := Lib.hid hS
      have HONE := Lib.hid hone
      have HG := Lib.hid hgood
      have HLE := Lib.hid hle
      have HB := Lib.hid hb
      clear hd hS hone hgood hle hb
      by_cases hlt : j < n + 3
      · go_wp2_with fail
        with_reducible refine (list wr S d m L 1048576 (fzF n j) (fzD n j) HD.out (by have := HONE.out.len; omega)).mono ?_
        rintro e w4 ⟨v4, rfl, _, hb4⟩
        have HD4 := Lib.hid (HD.out.later hb4)
        have HB4 := Lib.hid (HB.out.trans (hb4.mono HB.out.size))
        have HS4 := Lib.hid (show ∀ x, S x → W.heap.size ≤ x ∧ x < w4.heap.size from fun x hx => by have := HSS.out x hx; have := hb4.size; omega)
        clear hb4
        go_wp2_with fail
        refine (read w4 S d m L 1048576 (fzF n j) (fzD n j) nmA (by decide) HD4.out HG.out.bytes).mono ?_
        rintro e w5 ⟨v5, rfl, _, hb5⟩
        have HD5 := Lib.hid (HD4.out.later hb5)
        have HB5 := Lib.hid (HB4.out.trans (hb5.mono HB4.out.size))
        have HS5 := Lib.hid (show ∀ x, S x → W.heap.size ≤ x ∧ x < w5.heap.size from fun x hx => by have := HS4.out x hx; have := hb5.size; omega)
        clear hb5
        go_wp2_with fail
        refine (sync w5 S d m L 1048576 (fzF n j) (fzD n j) nmN (by decide) HD5.out ?_ ?_).mono ?_
        · have := fzF_le (n := n) (k := j); have := fzF_gt (n := n) (k := j); omega
        · have := fzF_le (n := n) (k := j); have := fzF_gt (n := n) (k := j); omega
        rintro e w6 ⟨rfl, ht6, hs6, hd6⟩
        obtain ⟨e1, e2, e3⟩ := sync_none HONE.out (fzF n j) (fzD n j)
        rw [e1, e2, e3] at hd6
        have HD6 := Lib.hid hd6
        have HB6 := Lib.hid (HB5.out.trans (ht6.below HB5.out.size (fun x hx => (HS5.out x hx).1)))
        have HS6 := Lib.hid (show ∀ x, S x → W.heap.size ≤ x ∧ x < w6.heap.size from fun x hx => by have := HS5.out x hx; omega)
        clear hd6 ht6 hs6 e1 e2 e3
        go_wp2_with fail
        have hsrc6 := Lib.hid (((HSRC2.out S (fun x hx => (HSS.out x hx).1)).later HB6.out))
        refine (append w6 S d m L 1048576 (fzF n j) (fzD n j) nmE _ (Lib.byteCells k) (by decide) HD6.out ?_ ?_ (by omega) (by omega) hsrc6.out ?_ ?_).mono ?_
        · have := fzF_le (n := n) (k := j); have := fzF_gt (n := n) (k := j); omega
        · have := fzF_le (n := n) (k := j); have := fzF_gt (n := n) (k := j); omega
        · rw [Lib.byteCells_length, HML.out]; have := HLE.out; omega
        · have := HONE.out.len; unfold maxLen; omega
        rintro e w7 ⟨L', jj, err, rfl, ht, hd7, hsays⟩
        obtain ⟨rfl, e2, e3⟩ := app_none hsays
        rw [e2, e3] at hd7
        have HD7 := Lib.hid hd7
        have HB7 := Lib.hid (HB6.out.trans (ht.below HB6.out.size (fun x hx => (HS6.out x hx).1)))
        have HS7 := Lib.hid (show ∀ x, With S w6 w7 x → W.heap.size ≤ x ∧ x < w7.heap.size from fun x hx => by
          have h1 := ht.size
          have h2 := HB6.out.size
          rcases hx with hx | hx
          · have := HS6.out x hx; omega
          · exact ⟨by omega, hx.2⟩)
        clear ht hd7 hsays e2 e3 hsrc6
        go_wp2_with fail
        have hsrc7 := Lib.hid (((HSRC2.out (With S w6 w7) (fun x hx => (HS7.out x hx).1)).later HB7.out))
        refine (append w7 _ d m L' 1048576 (fzF n j) (fzD n j) nmA _ (Lib.byteCells k) (by decide) HD7.out ?_ ?_ (by omega) (by omega) hsrc7.out ?_ ?_).mono ?_
        · have := fzF_le (n := n) (k := j); have := fzF_gt (n := n) (k := j); omega
        · have := fzF_le (n := n) (k := j); have := fzF_gt (n := n) (k := j); omega
        · rw [Lib.byteCells_length, HML.out]; have := HLE.out; omega
        · have := HONE.out.len; unfold maxLen; omega
        rintro e w8 ⟨L'', jj2, err2, rfl, ht, hd8, hsays⟩
        obtain ⟨hone8, hgood8, hle8, herr⟩ := app_fuse (by rw [HML.out]; exact hM1) HONE.out HG.out HLE.out (by omega) hsays
        obtain ⟨e2, e3⟩ := fuse_next n j
        rw [e2, e3] at hd8
        have HD8 := Lib.hid hd8
        have HB8 := Lib.hid (HB7.out.trans (ht.below HB7.out.size (fun x hx => (HS7.out x hx).1)))
        have HS8 := Lib.hid (show ∀ x, With (With S w6 w7) w7 w8 x → W.heap.size ≤ x ∧ x < w8.heap.size from fun x hx => by
          have h1 := ht.size
          have h2 := HB7.out.size
          rcases hx with hx | hx
          · have := HS7.out x hx; omega
          · exact ⟨by omega, hx.2⟩)
        have HONE8 := Lib.hid hone8
        have HG8 := Lib.hid hgood8
        have HLE8 := Lib.hid hle8
        clear ht hd8 hsays e2 e3 hsrc7 hone8 hgood8 hle8
        by_cases hjn : j < n
        · rw [if_pos hjn] at herr
          subst herr
          have hji : (j : Int) < (n : Int) := by omega
          have HFD := Lib.hid (fzD_le (n := n) (k := j + 1) hjn)
          rw [HFD.out] at HD8
          go_wp2_with fail
          refine (down28 w8 _ d m L'' 1048576 (fzF n (j + 1)) false HD8.out).mono ?_
          rintro e w9 ⟨rfl, rfl⟩
          go_wp2_with fail
          go_roundw
          case rel => exact ⟨j + 1, _, L'', by omega, by go_num, by rw [HFD.out]; exact HD8.out, HS8.out, HONE8.out, HG8.out, HLE8.out, HB8.out⟩
          case measure => simp [intOf]; omega
        · rw [if_neg hjn] at herr
          subst herr
          have hji : ¬ (j : Int) < (n : Int) := by omega
          have HFD := Lib.hid (fzD_gt (n := n) (k := j + 1) (by omega))
          rw [HFD.out] at HD8
          go_wp2_with fail
          refine (down28 w8 _ d m L'' 1048576 (fzF n (j + 1)) true HD8.out).mono ?_
          rintro e w9 ⟨rfl, rfl⟩
          go_wp2_with fail
          go_roundw
          case rel => exact ⟨j + 1, _, L'', by omega, by go_num, by rw [HFD.out]; exact HD8.out, HS8.out, HONE8.out, HG8.out, HLE8.out, HB8.out⟩
          case measure => simp [intOf]; omega
      · have hje : j = n + 3 := by omega
        subst hje
        have hfz : fzF n (n + 3) = 0 := fzF_gt (by omega)
        have hfd : fzD n (n + 3) = true := fzD_gt (by omega)
        rw [hfz, hfd] at HD
        clear hfz hfd
        go_wp2_with fail
        refine (read wr S d m L 1048576 0 true nmA (by decide) HD.out HG.out.bytes).mono ?_
        rintro e w5 ⟨v5, rfl, _, hb5⟩
        have HD5 := Lib.hid (HD.out.later hb5)
        have HB5 := Lib.hid (HB.out.trans (hb5.mono HB.out.size))
        have HS5 := Lib.hid (show ∀ x, S x → W.heap.size ≤ x ∧ x < w5.heap.size from fun x hx => by have := HSS.out x hx; have := hb5.size; omega)
        clear hb5
        have hg : (getE L true nmA).2 = 8 := rfl
        rw [hg]
        clear hg
        go_wp2_with fail
        refine (restart w5 S d m L 1048576 0 true (.slice none 0 0) [] (fun x hx => (HS5.out x hx).2) HD5.out HG.out (by have := HONE.out.len; omega) (.inl ⟨rfl, rfl⟩)).mono ?_
        rintro e w6 ⟨rfl, ht6, hd6⟩
        obtain ⟨hone6, hgood6, hle6⟩ := HONE.out.rst HG.out []
        have HD6 := Lib.hid hd6
        have HB6 := Lib.hid (HB5.out.trans (ht6.below HB5.out.size (fun x hx => (HS5.out x hx).1)))
        have HS6 := Lib.hid (show ∀ x, S x → W.heap.size ≤ x ∧ x < w6.heap.size from fun x hx => by have := HS5.out x hx; have := ht6.size; omega)
        have HONE6 := Lib.hid hone6
        have HLE6 := Lib.hid hle6
        clear ht6 hd6 hone6 hgood6 hle6
        go_wp2_with fail
        have hsrc6 := Lib.hid (((HSRC2.out S (fun x hx => (HSS.out x hx).1)).later HB6.out))
        have hln : lens (rst [] L) + (Lib.byteCells k).length ≤ 80000 := by rw [Lib.byteCells_length, HML.out]; have := HLE6.out; have := HLE.out; omega
        have HLN := Lib.hid hln
        clear hln
        refine (append w6 S d m _ 1048576 (-1) false nmA _ (Lib.byteCells k) (by decide) HD6.out (by omega) (by omega) (by omega) (by omega) hsrc6.out (by have := HLN.out; omega) (by have := HONE6.out.len; unfold maxLen; omega)).mono ?_
        rintro e w7 ⟨L', jj, err, rfl, ht, hd7, hsays⟩
        obtain ⟨e, rfl, hen, hel, hj7, he⟩ := app_one HONE6.out hsays
        have hjl : jj = (Lib.byteCells k).length := by rw [hj7]; unfold appN; have := HLN.out; omega
        have he0 : err = 0 := by rw [he, if_neg (by omega)]
        subst he0
        have HD7 := Lib.hid hd7
        have HB7 := Lib.hid (HB6.out.trans (ht.below HB6.out.size (fun x hx => (HS6.out x hx).1)))
        clear ht hd7 hsays hen hel hj7 he hjl hsrc6
        have hdd : apD (-1) false nmA = false := by simp [apD, nameA, opD]
        rw [hdd] at HD7
        go_wp2_with fail
        refine (down28 w7 _ d m _ 1048576 _ false HD7.out).mono ?_
        rintro e w9 ⟨rfl, rfl⟩
        go_wp2_with fail
        go_ret
        exact ⟨rfl, HB7.out⟩
  · go_wp2_with fail
    rw [show Value.slice a N cap = Value.slice a M cap by congr 1; omega]
    clear hc hsl
    go_wp2_with fail
    with_reducible refine (new 1048576 _ (by omega)).mono ?_
    rintro e w2 ⟨rfl, hd2, hb2, hs2⟩
    have hmx : max (1048576 : Int) 0 = 1048576 := by omega
    rw [hmx] at hd2
    have HD2 := Lib.hid hd2
    have HB2 := Lib.hid (HB1.out.trans (hb2.mono HB1.out.size))
    have HS2 := Lib.hid hs2
    clear hd2 hb2 hs2 hmx
    go_wp2_with fail
    with_reducible refine (setFuse _ _ _ _ _ _ _ _ _ HD2.out).mono ?_
    rintro e w3 ⟨rfl, ho3, hd3⟩
    have hmx : max (n : Int) (-1) = fzF n 0 := by rw [fzF_le (Nat.zero_le _)]; omega
    have hdz : false = fzD n 0 := by rw [fzD_le (Nat.zero_le _)]
    rw [hmx, hdz] at hd3
    have hlt : w1.heap.size < w3.heap.size ∧ w1.heap.size + 1 < w3.heap.size := by have h := HS2.out; have h2 := ho3.2.2.2.1; omega
    have HD3 := Lib.hid hd3
    have HB3 := Lib.hid (show Below W.heap.size W w3 from HB2.out.trans ((show Turns (fun k => k = w1.heap.size ∨ k = w1.heap.size + 1) w2 w3 from ho3.turns (.inr rfl)).below HB2.out.size (fun x hx => by have := HB1.out.size; rcases hx with rfl | rfl <;> omega)))
    have HL3 := Lib.hid hlt
    clear hd3 ho3 hmx hdz hlt
    obtain ⟨d, hd⟩ : ∃ d, w1.heap.size + 1 = d := ⟨_, rfl⟩
    obtain ⟨m, hm⟩ : ∃ m, w1.heap.size = m := ⟨_, rfl⟩
    rw [hd, hm] at HD3
    rw [hd]
    have HM := Lib.hid hm
    have HDD := Lib.hid hd
    clear hm hd
    go_wp2_with fail
    go_loopw [28] (fun i wr => InFuse W d m n i wr) (fun i _ => n + 3 - (intOf i).toNat)
    case atStart => exact ⟨0, _, [], Nat.zero_le _, rfl, HD3.out, fun x hx => by have := HL3.out; have := HB1.out.size; have := HM.out; have := HDD.out; rcases hx with rfl | rfl <;> omega, .inl rfl, Good.nil, by simp [lens], HB3.out⟩
    case round =>
      obtain ⟨j, S, L, hj, rfl, hd, hS, hone, hgood, hle, hb⟩ := hrel
      have HD := Lib.hid hd
      have HSS := Lib.hid hS
      have HONE := Lib.hid hone
      have HG := Lib.hid hgood
      have HLE := Lib.hid hle
      have HB := Lib.hid hb
      clear hd hS hone hgood hle hb
      by_cases hlt : j < n + 3
      · go_wp2_with fail
        with_reducible refine (list wr S d m L 1048576 (fzF n j) (fzD n j) HD.out (by have := HONE.out.len; omega)).mono ?_
        rintro e w4 ⟨v4, rfl, _, hb4⟩
        have HD4 := Lib.hid (HD.out.later hb4)
        have HB4 := Lib.hid (HB.out.trans (hb4.mono HB.out.size))
        have HS4 := Lib.hid (show ∀ x, S x → W.heap.size ≤ x ∧ x < w4.heap.size from fun x hx => by have := HSS.out x hx; have := hb4.size; omega)
        clear hb4
        go_wp2_with fail
        refine (read w4 S d m L 1048576 (fzF n j) (fzD n j) nmA (by decide) HD4.out HG.out.bytes).mono ?_
        rintro e w5 ⟨v5, rfl, _, hb5⟩
        have HD5 := Lib.hid (HD4.out.later hb5)
        have HB5 := Lib.hid (HB4.out.trans (hb5.mono HB4.out.size))
        have HS5 := Lib.hid (show ∀ x, S x → W.heap.size ≤ x ∧ x < w5.heap.size from fun x hx => by have := HS4.out x hx; have := hb5.size; omega)
        clear hb5
        go_wp2_with fail
        refine (sync w5 S d m L 1048576 (fzF n j) (fzD n j) nmN (by decide) HD5.out ?_ ?_).mono ?_
        · have := fzF_le (n := n) (k := j); have := fzF_gt (n := n) (k := j); omega
        · have := fzF_le (n := n) (k := j); have := fzF_gt (n := n) (k := j); omega
        rintro e w6 ⟨rfl, ht6, hs6, hd6⟩
        obtain ⟨e1, e2, e3⟩ := sync_none HONE.out (fzF n j) (fzD n j)
        rw [e1, e2, e3] at hd6
        have HD6 := Lib.hid hd6
        have HB6 := Lib.hid (HB5.out.trans (ht6.below HB5.out.size (fun x hx => (HS5.out x hx).1)))
        have HS6 := Lib.hid (show ∀ x, S x → W.heap.size ≤ x ∧ x < w6.heap.size from fun x hx => by have := HS5.out x hx; omega)
        clear hd6 ht6 hs6 e1 e2 e3
        go_wp2_with fail
        have hsrc6 := Lib.hid (((HSRC2.out S (fun x hx => (HSS.out x hx).1)).later HB6.out))
        refine (append w6 S d m L 1048576 (fzF n j) (fzD n j) nmE _ (Lib.byteCells k) (by decide) HD6.out ?_ ?_ (by omega) (by omega) hsrc6.out ?_ ?_).mono ?_
        · have := fzF_le (n := n) (k := j); have := fzF_gt (n := n) (k := j); omega
        · have := fzF_le (n := n) (k := j); have := fzF_gt (n := n) (k := j); omega
        · rw [Lib.byteCells_length, HML.out]; have := HLE.out; omega
        · have := HONE.out.len; unfold maxLen; omega
        rintro e w7 ⟨L', jj, err, rfl, ht, hd7, hsays⟩
        obtain ⟨rfl, e2, e3⟩ := app_none hsays
        rw [e2, e3] at hd7
        have HD7 := Lib.hid hd7
        have HB7 := Lib.hid (HB6.out.trans (ht.below HB6.out.size (fun x hx => (HS6.out x hx).1)))
        have HS7 := Lib.hid (show ∀ x, With S w6 w7 x → W.heap.size ≤ x ∧ x < w7.heap.size from fun x hx => by
          have h1 := ht.size
          have h2 := HB6.out.size
          rcases hx with hx | hx
          · have := HS6.out x hx; omega
          · exact ⟨by omega, hx.2⟩)
        clear ht hd7 hsays e2 e3 hsrc6
        go_wp2_with fail
        have hsrc7 := Lib.hid (((HSRC2.out (With S w6 w7) (fun x hx => (HS7.out x hx).1)).later HB7.out))
        refine (append w7 _ d m L' 1048576 (fzF n j) (fzD n j) nmA _ (Lib.byteCells k) (by decide) HD7.out ?_ ?_ (by omega) (by omega) hsrc7.out ?_ ?_).mono ?_
        · have := fzF_le (n := n) (k := j); have := fzF_gt (n := n) (k := j); omega
        · have := fzF_le (n := n) (k := j); have := fzF_gt (n := n) (k := j); omega
        · rw [Lib.byteCells_length, HML.out]; have := HLE.out; omega
        · have := HONE.out.len; unfold maxLen; omega
        rintro e w8 ⟨L'', jj2, err2, rfl, ht, hd8, hsays⟩
        obtain ⟨hone8, hgood8, hle8, herr⟩ := app_fuse (by rw [HML.out]; exact hM1) HONE.out HG.out HLE.out (by omega) hsays
        obtain ⟨e2, e3⟩ := fuse_next n j
        rw [e2, e3] at hd8
        have HD8 := Lib.hid hd8
        have HB8 := Lib.hid (HB7.out.trans (ht.below HB7.out.size (fun x hx => (HS7.out x hx).1)))
        have HS8 := Lib.hid (show ∀ x, With (With S w6 w7) w7 w8 x → W.heap.size ≤ x ∧ x < w8.heap.size from fun x hx => by
          have h1 := ht.size
          have h2 := HB7.out.size
          rcases hx with hx | hx
          · have := HS7.out x hx; omega
          · exact ⟨by omega, hx.2⟩)
        have HONE8 := Lib.hid hone8
        have HG8 := Lib.hid hgood8
        have HLE8 := Lib.hid hle8
        clear ht hd8 hsays e2 e3 hsrc7 hone8 hgood8 hle8
        by_cases hjn : j < n
        · rw [if_pos hjn] at herr
          subst herr
          have hji : (j : Int) < (n : Int) := by omega
          have HFD := Lib.hid (fzD_le (n := n) (k := j + 1) hjn)
          rw [HFD.out] at HD8
          go_wp2_with fail
          refine (down28 w8 _ d m L'' 1048576 (fzF n (j + 1)) false HD8.out).mono ?_
          rintro e w9 ⟨rfl, rfl⟩
          go_wp2_with fail
          go_roundw
          case rel => exact ⟨j + 1, _, L'', by omega, by go_num, by rw [HFD.out]; exact HD8.out, HS8.out, HONE8.out, HG8.out, HLE8.out, HB8.out⟩
          case measure => simp [intOf]; omega
        · rw [if_neg hjn] at herr
          subst herr
          have hji : ¬ (j : Int) < (n : Int) := by omega
          have HFD := Lib.hid (fzD_gt (n := n) (k := j + 1) (by omega))
          rw [HFD.out] at HD8
          go_wp2_with fail
          refine (down28 w8 _ d m L'' 1048576 (fzF n (j + 1)) true HD8.out).mono ?_
          rintro e w9 ⟨rfl, rfl⟩
          go_wp2_with fail
          go_roundw
          case rel => exact ⟨j + 1, _, L'', by omega, by go_num, by rw [HFD.out]; exact HD8.out, HS8.out, HONE8.out, HG8.out, HLE8.out, HB8.out⟩
          case measure => simp [intOf]; omega
      · have hje : j = n + 3 := by omega
        subst hje
        have hfz : fzF n (n + 3) = 0 := fzF_gt (by omega)
        have hfd : fzD n (n + 3) = true := fzD_gt (by omega)
        rw [hfz, hfd] at HD
        clear hfz hfd
        go_wp2_with fail
        refine (read wr S d m L 1048576 0 true nmA (by decide) HD.out HG.out.bytes).mono ?_
        rintro e w5 ⟨v5, rfl, _, hb5⟩
        have HD5 := Lib.hid (HD.out.later hb5)
        have HB5 := Lib.hid (HB.out.trans (hb5.mono HB.out.size))
        have HS5 := Lib.hid (show ∀ x, S x → W.heap.size ≤ x ∧ x < w5.heap.size from fun x hx => by have := HSS.out x hx; have := hb5.size; omega)
        clear hb5
        have hg : (getE L true nmA).2 = 8 := rfl
        rw [hg]
        clear hg
        go_wp2_with fail
        refine (restart w5 S d m L 1048576 0 true (.slice none 0 0) [] (fun x hx => (HS5.out x hx).2) HD5.out HG.out (by have := HONE.out.len; omega) (.inl ⟨rfl, rfl⟩)).mono ?_
        rintro e w6 ⟨rfl, ht6, hd6⟩
        obtain ⟨hone6, hgood6, hle6⟩ := HONE.out.rst HG.out []
        have HD6 := Lib.hid hd6
        have HB6 := Lib.hid (HB5.out.trans (ht6.below HB5.out.size (fun x hx => (HS5.out x hx).1)))
        have HS6 := Lib.hid (show ∀ x, S x → W.heap.size ≤ x ∧ x < w6.heap.size from fun x hx => by have := HS5.out x hx; have := ht6.size; omega)
        have HONE6 := Lib.hid hone6
        have HLE6 := Lib.hid hle6
        clear ht6 hd6 hone6 hgood6 hle6
        go_wp2_with fail
        have hsrc6 := Lib.hid (((HSRC2.out S (fun x hx => (HSS.out x hx).1)).later HB6.out))
        have hln : lens (rst [] L) + (Lib.byteCells k).length ≤ 80000 := by rw [Lib.byteCells_length, HML.out]; have := HLE6.out; have := HLE.out; omega
        have HLN := Lib.hid hln
        clear hln
        refine (append w6 S d m _ 1048576 (-1) false nmA _ (Lib.byteCells k) (by decide) HD6.out (by omega) (by omega) (by omega) (by omega) hsrc6.out (by have := HLN.out; omega) (by have := HONE6.out.len; unfold maxLen; omega)).mono ?_
        rintro e w7 ⟨L', jj, err, rfl, ht, hd7, hsays⟩
        obtain ⟨e, rfl, hen, hel, hj7, he⟩ := app_one HONE6.out hsays
        have hjl : jj = (Lib.byteCells k).length := by rw [hj7]; unfold appN; have := HLN.out; omega
        have he0 : err = 0 := by rw [he, if_neg (by omega)]
        subst he0
        have HD7 := Lib.hid hd7
        have HB7 := Lib.hid (HB6.out.trans (ht.below HB6.out.size (fun x hx => (HS6.out x hx).1)))
        clear ht hd7 hsays hen hel hj7 he hjl hsrc6
        have hdd : apD (-1) false nmA = false := by simp [apD, nameA, opD]
        rw [hdd] at HD7
        go_wp2_with fail
        refine (down28 w7 _ d m _ 1048576 _ false HD7.out).mono ?_
        rintro e w9 ⟨rfl, rfl⟩
        go_wp2_with fail
        go_ret
        exact ⟨rfl, HB7.out⟩
end Go.Proofs.Ytjkgcpbgacdgaaa
