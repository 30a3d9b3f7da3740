/- One token, by the reference. Condition: the text's length. -/
import Derived.Test.YtcmdcdjclmpncaaN
namespace Go.Proofs.Ytcmdcdjclmpncaa
open Go.RowKit
theorem numR_true : ∀ l : List UInt8, numR true l = l.dropWhile digitB
  | [] => rfl
  | c :: r => by
    rw [numR, List.dropWhile_cons]
    cases h : digitB c with
    | true => simp [numR_true r]
    | false => simp
theorem numR_dw : ∀ l : List UInt8, numR false l = numR false (l.dropWhile digitB)
  | [] => rfl
  | c :: r => by
    cases h : digitB c with
    | true =>
      rw [List.dropWhile_cons, if_pos h, ← numR_dw r, numR, if_pos h]
    | false =>
      rw [List.dropWhile_cons, if_neg (by simp [h])]
theorem dw_head {p : UInt8 → Bool} {l r : List UInt8} {c : UInt8} (h : l.dropWhile p = c :: r) : p c = false := by
  have := List.head?_dropWhile_not p l
  rw [h] at this
  simpa using this
theorem results14 (tmps : Array Value) (w : World) (B : Nat) (x y z : Value) (hb : tmps.getD 4 undef = .pointer (some ⟨B, 0, none⟩)) (hx : w.cell? ⟨B, 0, none⟩ = some x) (hy : w.cell? ⟨B, 1, none⟩ = some y) (hz : w.cell? ⟨B, 2, none⟩ = some z) :
    (results Try.f14 tmps).run Try.prog w = .ok (.tuple #[.agg #[x, y, z], tmps.getD 5 undef, tmps.getD 6 undef]) w := by
  have hb' : tmps[4]?.getD undef = .pointer (some ⟨B, 0, none⟩) := by simpa using hb
  simp [results, hb', hx, hy, hz, go_sem]
def Two (w wr : World) (x y z : Value) : Prop :=
  wr.heap[w.heap.size]? = some (.cells #[.int .i64 0, .string ⟨#[]⟩, .int .i64 0] 41 (0, 0)) ∧ wr.heap[w.heap.size + 1]? = some (.cells #[x, y, z] 41 (0, 0)) ∧ Below w.heap.size w wr
section
variable {w wr w' : World} {x y z : Value}
theorem Two.cells (h : Two w wr x y z) : wr.cell? ⟨w.heap.size + 1, 0, none⟩ = some x ∧ wr.cell? ⟨w.heap.size + 1, 1, none⟩ = some y ∧ wr.cell? ⟨w.heap.size + 1, 2, none⟩ = some z ∧
    wr.frozen? ⟨w.heap.size + 1, 0, none⟩ = false ∧ wr.frozen? ⟨w.heap.size + 1, 1, none⟩ = false := by simp [World.cell?, World.frozen?, h.2.1]
theorem Two.res (h : Two w wr x y z) : wr.cell? ⟨w.heap.size, 0, none⟩ = some (.int .i64 0) ∧ wr.cell? ⟨w.heap.size, 1, none⟩ = some (.string ⟨#[]⟩) ∧ wr.cell? ⟨w.heap.size, 2, none⟩ = some (.int .i64 0) ∧
    wr.frozen? ⟨w.heap.size, 0, none⟩ = false ∧ wr.frozen? ⟨w.heap.size, 1, none⟩ = false ∧ wr.frozen? ⟨w.heap.size, 2, none⟩ = false := by simp [World.cell?, World.frozen?, h.1]
theorem Two.set0 (h : Two w wr x y z) (u : Value) : Two w (wr.setCell ⟨w.heap.size + 1, 0, none⟩ u) u y z := by
  obtain ⟨h0, h1, h2⟩ := h
  exact ⟨by rw [Below.heap_setCell _ _ _ _ (by simp)]; exact h0, by rw [heap_setCell_same _ _ _ _ _ _ h1]; rfl, h2.setCell (by simp) _⟩
theorem Two.set1 (h : Two w wr x y z) (u : Value) : Two w (wr.setCell ⟨w.heap.size + 1, 1, none⟩ u) x u z := by
  obtain ⟨h0, h1, h2⟩ := h
  exact ⟨by rw [Below.heap_setCell _ _ _ _ (by simp)]; exact h0, by rw [heap_setCell_same _ _ _ _ _ _ h1]; rfl, h2.setCell (by simp) _⟩
theorem Two.drew (h : Two w wr x y z) : Two w wr.drew x y z := ⟨h.1, h.2.1, h.2.2.os, h.2.2.tape, h.2.2.output, h.2.2.size, h.2.2.block⟩
theorem Two.later (h : Two w wr x y z) (hb : Below wr.heap.size wr w') : Two w w' x y z :=
  ⟨(hb.block _ (lt_of_block h.1)).trans h.1, (hb.block _ (lt_of_block h.2.1)).trans h.2.1, h.2.2.trans (hb.mono h.2.2.size)⟩
theorem Two.done (h : Two w wr x y z) : ∀ wz : World, wz = ((wr.setCell ⟨w.heap.size, 0, none⟩ x).setCell ⟨w.heap.size, 1, none⟩ y).setCell ⟨w.heap.size, 2, none⟩ z →
    wz.cell? ⟨w.heap.size, 0, none⟩ = some x ∧ wz.cell? ⟨w.heap.size, 1, none⟩ = some y ∧ wz.cell? ⟨w.heap.size, 2, none⟩ = some z ∧ Below w.heap.size w wz := by
  rintro wz rfl
  have g1 := heap_setCell_same wr w.heap.size 0 _ _ x h.1
  have g2 := heap_setCell_same _ w.heap.size 1 _ _ y g1
  have g3 := heap_setCell_same _ w.heap.size 2 _ _ z g2
  exact ⟨by simp [World.cell?, g3], by simp [World.cell?, g3], by simp [World.cell?, g3], ((h.2.2.setCell (Nat.le_refl _) _).setCell (Nat.le_refl _) _).setCell (Nat.le_refl _) _⟩
end
theorem dw_hd (l : List UInt8) : digitB (hd (l.dropWhile digitB)) = false := by
  cases h : l.dropWhile digitB with
  | nil => exact digit0
  | cons c r => exact dw_head h
def OnePost (s : ByteArray) (k : Nat) (o : One) (w : World) (e : Ending) (w' : World) : Prop :=
  Below w.heap.size w w' ∧ match o with
    | none => ∃ kind text at_ z, e = .returned (.tuple #[.agg #[.int .i64 kind, .string text, .int .i64 at_], .int .i64 z, .bool false])
    | some (kd, tx, q) => e = .returned (.tuple #[.agg #[.int .i64 kd, .string (ofL tx), .int .i64 (k : Int)], .int .i64 ((s.size - q.length : Nat) : Int), .bool true])
set_option maxRecDepth 100000 in
set_option maxHeartbeats 4000000 in
theorem rone (s : ByteArray) (k : Nat) (w : World) (hs : s.size ≤ 1048576) (hk : k < s.size) : Calls Try.prog 14 #[.string s, .int .i64 (k : Int)] w (OnePost s k (one (s.data.toList.drop k)) w) := by
  obtain ⟨c, hcc⟩ : ∃ c, s[k] = c := ⟨_, rfl⟩
  have hdc := drop_cons s k hk
  rw [hcc] at hdc
  obtain ⟨l, hl⟩ : ∃ l, s.data.toList.drop k = l := ⟨_, rfl⟩
  have HL := Lib.hid hl.symm
  have hl0 := Lib.hid hl
  have HD1 := Lib.hid (hl.symm.trans hdc)
  rw [hl]
  have HONE := Lib.hid (show one l = one1 c (s.data.toList.drop (k + 1)) by rw [HD1.out]; rfl)
  have hw1 : Two w ((w.alloc (.cells #[.int .i64 0, .string ⟨#[]⟩, .int .i64 0] 41)).alloc (.cells #[.int .i64 0, .string ⟨#[]⟩, .int .i64 (k : Int)] 41)) (.int .i64 0) (.string ⟨#[]⟩) (.int .i64 (k : Int)) := by
    refine ⟨(Below.heap_alloc _ _ _ (by simp)).trans (heap_alloc_new w _), ?_, ((Below.refl _ _).alloc (Nat.le_refl _) _).alloc (by simp) _⟩
    have h1 := heap_alloc_new (w.alloc (.cells #[.int .i64 0, .string ⟨#[]⟩, .int .i64 0] 41)) (.cells #[.int .i64 0, .string ⟨#[]⟩, .int .i64 (k : Int)] 41)
    rw [World.size_alloc] at h1
    exact h1
  obtain ⟨w1, he1⟩ : ∃ w1, (w.alloc (.cells #[.int .i64 0, .string ⟨#[]⟩, .int .i64 0] 41)).alloc (.cells #[.int .i64 0, .string ⟨#[]⟩, .int .i64 (k : Int)] 41) = w1 := ⟨_, rfl⟩
  rw [he1] at hw1
  have HT := Lib.hid hw1
  have HCC := Lib.hid hcc
  have hk0 : (0 : Int) ≤ (k : Int) := by omega
  have hkl : (k : Int) < (s.size : Int) := by omega
  clear hdc hl
  go_enter Try.func14, Try.ntmps14
  go_wp2_with fail
  clear he1 hcc
  have y0 : w1.cell? ⟨w.heap.size + 1, 0, none⟩ = some (.int .i64 0) := hw1.cells.1
  have y1 : w1.cell? ⟨w.heap.size + 1, 1, none⟩ = some (.string ⟨#[]⟩) := hw1.cells.2.1
  have y2 : w1.cell? ⟨w.heap.size + 1, 2, none⟩ = some (.int .i64 (k : Int)) := hw1.cells.2.2.1
  have yf0 : w1.frozen? ⟨w.heap.size + 1, 0, none⟩ = false := hw1.cells.2.2.2.1
  have yf1 : w1.frozen? ⟨w.heap.size + 1, 1, none⟩ = false := hw1.cells.2.2.2.2
  have r0 : w1.cell? ⟨w.heap.size, 0, none⟩ = some (.int .i64 0) := hw1.res.1
  have r1 : w1.cell? ⟨w.heap.size, 1, none⟩ = some (.string ⟨#[]⟩) := hw1.res.2.1
  have r2 : w1.cell? ⟨w.heap.size, 2, none⟩ = some (.int .i64 0) := hw1.res.2.2.1
  have rf0 : w1.frozen? ⟨w.heap.size, 0, none⟩ = false := hw1.res.2.2.2.1
  have rf1 : w1.frozen? ⟨w.heap.size, 1, none⟩ = false := hw1.res.2.2.2.2.1
  have rf2 : w1.frozen? ⟨w.heap.size, 2, none⟩ = false := hw1.res.2.2.2.2.2
  clear hw1
  cases hlb : letterB c with
  | true =>
    have hwl : l.dropWhile wordB = (s.data.toList.drop (k + 1)).dropWhile wordB := by rw [HD1.out, List.dropWhile_cons, if_pos (by simp [wordB, hlb])]
    obtain ⟨hd1, hd2, hd3⟩ := spanE_drop s k wordB (by omega)
    rw [hl0.out, hwl] at hd1
    obtain ⟨en, hen⟩ : ∃ en, spanE s k wordB = en := ⟨_, rfl⟩
    rw [hen] at hd1 hd2 hd3
    have HEN := Lib.hid hen
    have HN : Hid (one l = some (1, pre l (s.data.toList.drop en), s.data.toList.drop en)) := Lib.hid (by rw [HONE.out, one1, if_pos hlb, ← HD1.out, hd1])
    have HLB := Lib.hid hlb
    clear hlb hen hd1 hwl
    refine (rletter _ _).mono ?_
    rw [HLB.out]
    rintro e w3 ⟨rfl, rfl⟩
    go_wp2_with fail
    have hsp := spanW s k w1 hs (by omega)
    rw [HEN.out] at hsp
    with_reducible refine hsp.mono ?_
    clear hsp
    rintro e w3 ⟨rfl, rfl⟩
    go_wp2_with fail
    have hke : (k : Int) ≤ (en : Int) := by omega
    have hes : (en : Int) ≤ (s.size : Int) := by omega
    go_region
    have hw5 := ((HT.out.set0 (.int .i64 1)).set1 (.string (s.extract k en))).drew
    obtain ⟨w5, he5⟩ : ∃ w5, ((w1.setCell ⟨w.heap.size + 1, 0, none⟩ (.int .i64 1)).setCell ⟨w.heap.size + 1, 1, none⟩ (.string (s.extract k en))).drew = w5 := ⟨_, rfl⟩
    rw [he5] at hw5 ⊢
    have HDN := Lib.hid hw5.done
    clear he5 y0 y1 y2 yf0 yf1 r0 r1 r2 rf0 rf1 rf2
    have y0 : w5.cell? ⟨w.heap.size + 1, 0, none⟩ = some (.int .i64 1) := hw5.cells.1
    have y1 : w5.cell? ⟨w.heap.size + 1, 1, none⟩ = some (.string (s.extract k en)) := hw5.cells.2.1
    have y2 : w5.cell? ⟨w.heap.size + 1, 2, none⟩ = some (.int .i64 (k : Int)) := hw5.cells.2.2.1
    have yf0 : w5.frozen? ⟨w.heap.size + 1, 0, none⟩ = false := hw5.cells.2.2.2.1
    have yf1 : w5.frozen? ⟨w.heap.size + 1, 1, none⟩ = false := hw5.cells.2.2.2.2
    have r0 : w5.cell? ⟨w.heap.size, 0, none⟩ = some (.int .i64 0) := hw5.res.1
    have r1 : w5.cell? ⟨w.heap.size, 1, none⟩ = some (.string ⟨#[]⟩) := hw5.res.2.1
    have r2 : w5.cell? ⟨w.heap.size, 2, none⟩ = some (.int .i64 0) := hw5.res.2.2.1
    have rf0 : w5.frozen? ⟨w.heap.size, 0, none⟩ = false := hw5.res.2.2.2.1
    have rf1 : w5.frozen? ⟨w.heap.size, 1, none⟩ = false := hw5.res.2.2.2.2.1
    have rf2 : w5.frozen? ⟨w.heap.size, 2, none⟩ = false := hw5.res.2.2.2.2.2
    clear hw5
    have HPT : Hid (s.extract k en = ofL (pre l (s.data.toList.drop en))) := Lib.hid (pre_text HL.out (by omega) (by omega))
    go_wp2_with fail
    refine bodyPost_ret (results14 _ _ w.heap.size _ _ _ rfl (HDN.out _ rfl).1 (HDN.out _ rfl).2.1 (HDN.out _ rfl).2.2.1) rfl ?_
    refine ⟨(HDN.out _ rfl).2.2.2, ?_⟩
    rw [HN.out]
    rw [HPT.out]
    simp only [List.length_drop]
    rw [show s.size - (s.data.toList.length - en) = en by simp; omega]
    rfl
  | false =>
    have HLB := Lib.hid hlb
    cases hq : quoteB c with
    | true =>
      have hnd : digitB c = false := by
        cases hd : digitB c with
        | false => rfl
        | true => simp [digitB] at hd; simp [quoteB] at hq; omega
      have hnm : minus c (s.data.toList.drop (k + 1)) = false := by
        simp [quoteB] at hq
        simp only [minus, Bool.and_eq_false_iff, decide_eq_false_iff_not]
        left; omega
      have HQ := Lib.hid (show one l = quoOne c (quotedL c [] (s.data.toList.drop (k + 1))) by rw [HONE.out, one1, if_neg (by simp [hlb]), if_neg (by simp [hnd, hnm]), if_pos hq]; rfl)
      clear hlb hnd hnm
      by_cases h34 : c.toNat = 34
      · clear hq
        have b34 : ((c.toNat : Int) == 34) = true := by simp; omega
        refine (rletter _ _).mono ?_
        rw [HLB.out]
        rintro e w3 ⟨rfl, rfl⟩
        go_wp2_with fail
        with_reducible refine (rquoted s k c w1 hs hk HCC.out (by omega)).mono ?_
        rintro e w2 ⟨hb, he⟩
        have hw2 := HT.out.later hb
        have HT2 := Lib.hid hw2
        clear y0 y1 y2 yf0 yf1 r0 r1 r2 rf0 rf1 rf2 hb
        have y0 : w2.cell? ⟨w.heap.size + 1, 0, none⟩ = some (.int .i64 0) := hw2.cells.1
        have y1 : w2.cell? ⟨w.heap.size + 1, 1, none⟩ = some (.string ⟨#[]⟩) := hw2.cells.2.1
        have y2 : w2.cell? ⟨w.heap.size + 1, 2, none⟩ = some (.int .i64 (k : Int)) := hw2.cells.2.2.1
        have yf0 : w2.frozen? ⟨w.heap.size + 1, 0, none⟩ = false := hw2.cells.2.2.2.1
        have yf1 : w2.frozen? ⟨w.heap.size + 1, 1, none⟩ = false := hw2.cells.2.2.2.2
        have r0 : w2.cell? ⟨w.heap.size, 0, none⟩ = some (.int .i64 0) := hw2.res.1
        have r1 : w2.cell? ⟨w.heap.size, 1, none⟩ = some (.string ⟨#[]⟩) := hw2.res.2.1
        have r2 : w2.cell? ⟨w.heap.size, 2, none⟩ = some (.int .i64 0) := hw2.res.2.2.1
        have rf0 : w2.frozen? ⟨w.heap.size, 0, none⟩ = false := hw2.res.2.2.2.1
        have rf1 : w2.frozen? ⟨w.heap.size, 1, none⟩ = false := hw2.res.2.2.2.2.1
        have rf2 : w2.frozen? ⟨w.heap.size, 2, none⟩ = false := hw2.res.2.2.2.2.2
        clear hw2
        cases hqo : quotedL c [] (s.data.toList.drop (k + 1)) with
        | none =>
          rw [hqo] at he
          simp only at he
          subst he
          have HN : Hid (one l = none) := Lib.hid (by rw [HQ.out, hqo]; rfl)
          have HDN := Lib.hid ((HT2.out.set0 (.int .i64 2)).set1 (.string ⟨#[]⟩)).done
          clear hqo h34
          go_wp2_with fail
          refine bodyPost_ret (results14 _ _ w.heap.size _ _ _ rfl (HDN.out _ rfl).1 (HDN.out _ rfl).2.1 (HDN.out _ rfl).2.2.1) rfl ?_
          refine ⟨(HDN.out _ rfl).2.2.2, ?_⟩
          rw [HN.out]
          exact ⟨_, _, _, _, rfl⟩
        | some p =>
          obtain ⟨tx, q⟩ := p
          rw [hqo] at he
          simp only at he
          subst he
          have HN : Hid (one l = some (2, tx, q)) := Lib.hid (by rw [HQ.out, hqo, quo_some, if_neg (by omega)])
          have HDN := Lib.hid ((HT2.out.set0 (.int .i64 2)).set1 (.string (ofL tx))).done
          clear hqo h34
          go_wp2_with fail
          refine bodyPost_ret (results14 _ _ w.heap.size _ _ _ rfl (HDN.out _ rfl).1 (HDN.out _ rfl).2.1 (HDN.out _ rfl).2.2.1) rfl ?_
          refine ⟨(HDN.out _ rfl).2.2.2, ?_⟩
          rw [HN.out]
          rfl
      · have h39 : c.toNat = 39 := by simp [quoteB, h34] at hq; exact hq
        clear hq
        have b34 : ((c.toNat : Int) == 34) = false := by simp; omega
        have b39 : ((c.toNat : Int) == 39) = true := by simp; omega
        refine (rletter _ _).mono ?_
        rw [HLB.out]
        rintro e w3 ⟨rfl, rfl⟩
        go_wp2_with fail
        with_reducible refine (rquoted s k c w1 hs hk HCC.out (by omega)).mono ?_
        rintro e w2 ⟨hb, he⟩
        have hw2 := HT.out.later hb
        have HT2 := Lib.hid hw2
        clear y0 y1 y2 yf0 yf1 r0 r1 r2 rf0 rf1 rf2 hb
        have y0 : w2.cell? ⟨w.heap.size + 1, 0, none⟩ = some (.int .i64 0) := hw2.cells.1
        have y1 : w2.cell? ⟨w.heap.size + 1, 1, none⟩ = some (.string ⟨#[]⟩) := hw2.cells.2.1
        have y2 : w2.cell? ⟨w.heap.size + 1, 2, none⟩ = some (.int .i64 (k : Int)) := hw2.cells.2.2.1
        have yf0 : w2.frozen? ⟨w.heap.size + 1, 0, none⟩ = false := hw2.cells.2.2.2.1
        have yf1 : w2.frozen? ⟨w.heap.size + 1, 1, none⟩ = false := hw2.cells.2.2.2.2
        have r0 : w2.cell? ⟨w.heap.size, 0, none⟩ = some (.int .i64 0) := hw2.res.1
        have r1 : w2.cell? ⟨w.heap.size, 1, none⟩ = some (.string ⟨#[]⟩) := hw2.res.2.1
        have r2 : w2.cell? ⟨w.heap.size, 2, none⟩ = some (.int .i64 0) := hw2.res.2.2.1
        have rf0 : w2.frozen? ⟨w.heap.size, 0, none⟩ = false := hw2.res.2.2.2.1
        have rf1 : w2.frozen? ⟨w.heap.size, 1, none⟩ = false := hw2.res.2.2.2.2.1
        have rf2 : w2.frozen? ⟨w.heap.size, 2, none⟩ = false := hw2.res.2.2.2.2.2
        clear hw2
        cases hqo : quotedL c [] (s.data.toList.drop (k + 1)) with
        | none =>
          rw [hqo] at he
          simp only at he
          subst he
          have HN : Hid (one l = none) := Lib.hid (by rw [HQ.out, hqo]; rfl)
          have HDN := Lib.hid (((HT2.out.set0 (.int .i64 2)).set1 (.string ⟨#[]⟩)).set0 (.int .i64 4)).done
          clear hqo h39
          go_wp2_with fail
          refine bodyPost_ret (results14 _ _ w.heap.size _ _ _ rfl (HDN.out _ rfl).1 (HDN.out _ rfl).2.1 (HDN.out _ rfl).2.2.1) rfl ?_
          refine ⟨(HDN.out _ rfl).2.2.2, ?_⟩
          rw [HN.out]
          exact ⟨_, _, _, _, rfl⟩
        | some p =>
          obtain ⟨tx, q⟩ := p
          rw [hqo] at he
          simp only at he
          subst he
          have HN : Hid (one l = some (4, tx, q)) := Lib.hid (by rw [HQ.out, hqo, quo_some, if_pos h39])
          have HDN := Lib.hid (((HT2.out.set0 (.int .i64 2)).set1 (.string (ofL tx))).set0 (.int .i64 4)).done
          clear hqo h39
          go_wp2_with fail
          refine bodyPost_ret (results14 _ _ w.heap.size _ _ _ rfl (HDN.out _ rfl).1 (HDN.out _ rfl).2.1 (HDN.out _ rfl).2.2.1) rfl ?_
          refine ⟨(HDN.out _ rfl).2.2.2, ?_⟩
          rw [HN.out]
          rfl
    | false =>
      have h34 : c.toNat ≠ 34 := by intro h; simp [quoteB, h] at hq
      have h39 : c.toNat ≠ 39 := by intro h; simp [quoteB, h] at hq
      have b34 : ((c.toNat : Int) == 34) = false := by simp; omega
      have b39 : ((c.toNat : Int) == 39) = false := by simp; omega
      clear h34 h39
      cases hdb : digitB c with
      | true =>
        have HNUM := Lib.hid (show one l = numOne l (numR false (s.data.toList.drop (k + 1))) by rw [HONE.out, one1, if_neg (by simp [hlb]), if_pos (by simp [hdb]), ← HD1.out]; rfl)
        have HDB := Lib.hid hdb
        clear hlb hq hdb
        refine (rletter _ _).mono ?_
        rw [HLB.out]
        rintro e w3 ⟨rfl, rfl⟩
        go_wp2_with fail
        with_reducible refine (rdigit _ _).mono ?_
        rw [HDB.out]
        rintro e w3 ⟨rfl, rfl⟩
        go_wp2_with fail
        obtain ⟨hd1, hd2, hd3⟩ := spanE_drop s (k + 1) digitB (by omega)
        obtain ⟨e1, he1⟩ : ∃ e1, spanE s (k + 1) digitB = e1 := ⟨_, rfl⟩
        rw [he1] at hd1 hd2 hd3
        have hh1 : digitB (hd (s.data.toList.drop e1)) = false := by rw [hd1]; exact dw_hd _
        have hnr : numR false (s.data.toList.drop (k + 1)) = numR false (s.data.toList.drop e1) := by rw [numR_dw, ← hd1]
        have hsp := spanD s (k + 1) w1 hs (by omega)
        rw [he1, show ((k + 1 : Nat) : Int) = (k : Int) + 1 by omega] at hsp
        with_reducible refine hsp.mono ?_
        clear hsp he1 hd1
        rintro e w3 ⟨rfl, rfl⟩
        have he0 : (0 : Int) ≤ (e1 : Int) := by omega
        by_cases h1 : e1 + 1 < s.size
        · have h1' : (e1 : Int) + 1 < (s.size : Int) := by omega
          have h1'' : (e1 : Int) < (s.size : Int) := by omega
          have hhd1 := hd_in s e1 (by omega)
          have hhd2 := hd_in s (e1 + 1) h1
          obtain ⟨d0, hd0⟩ : ∃ d0, s[e1] = d0 := ⟨_, rfl⟩
          obtain ⟨d1, hd1⟩ : ∃ d1, s[e1 + 1] = d1 := ⟨_, rfl⟩
          rw [hd0] at hhd1
          rw [hd1] at hhd2
          by_cases h46 : d0.toNat = 46
          · have b46 : ((d0.toNat : Int) == 46) = true := by simp; omega
            cases hdd : digitB d1 with
            | true =>
              obtain ⟨hq1, hq2, hq3⟩ := spanE_drop s (e1 + 1) digitB (by omega)
              obtain ⟨e2, he2⟩ : ∃ e2, spanE s (e1 + 1) digitB = e2 := ⟨_, rfl⟩
              rw [he2] at hq1 hq2 hq3
              have HNR := Lib.hid (hnr.trans ((num_point hh1 (by rw [hhd1]; exact h46) (by rw [hhd2]; exact hdd)).2.trans ((numR_true _).trans hq1.symm)))
              have HE2 := Lib.hid he2
              have HDD := Lib.hid hdd
              clear hh1 hnr hhd1 hhd2 h46 hdd hq1 he2
              go_wp2_with fail
              clear hd0 hd1
              with_reducible refine (rdigit _ _).mono ?_
              rw [HDD.out]
              rintro e w3 ⟨rfl, rfl⟩
              go_wp2_with fail
              have hsp := spanD s (e1 + 1) w1 hs (by omega)
              rw [HE2.out, show ((e1 + 1 : Nat) : Int) = (e1 : Int) + 1 by omega] at hsp
              with_reducible refine hsp.mono ?_
              clear hsp
              rintro e w3 ⟨rfl, rfl⟩
              go_wp2_with fail
              by_cases h40 : e2 - k ≤ 40
              · have h40' : (e2 : Int) - (k : Int) ≤ 40 := by omega
                have HN : Hid (one l = some (3, pre l (s.data.toList.drop e2), s.data.toList.drop e2)) := Lib.hid (by rw [HNUM.out, HNR.out, numOne, if_pos (by rw [HL.out]; simp; omega)])
                have hke : (k : Int) ≤ (e2 : Int) := by omega
                have hes : (e2 : Int) ≤ (s.size : Int) := by omega
                go_region
                have hw5 := ((HT.out.set0 (.int .i64 3)).set1 (.string (s.extract k e2))).drew
                obtain ⟨w5, he5⟩ : ∃ w5, ((w1.setCell ⟨w.heap.size + 1, 0, none⟩ (.int .i64 3)).setCell ⟨w.heap.size + 1, 1, none⟩ (.string (s.extract k e2))).drew = w5 := ⟨_, rfl⟩
                rw [he5] at hw5 ⊢
                have HDN := Lib.hid hw5.done
                clear he5 y0 y1 y2 yf0 yf1 r0 r1 r2 rf0 rf1 rf2
                have y0 : w5.cell? ⟨w.heap.size + 1, 0, none⟩ = some (.int .i64 3) := hw5.cells.1
                have y1 : w5.cell? ⟨w.heap.size + 1, 1, none⟩ = some (.string (s.extract k e2)) := hw5.cells.2.1
                have y2 : w5.cell? ⟨w.heap.size + 1, 2, none⟩ = some (.int .i64 (k : Int)) := hw5.cells.2.2.1
                have yf0 : w5.frozen? ⟨w.heap.size + 1, 0, none⟩ = false := hw5.cells.2.2.2.1
                have yf1 : w5.frozen? ⟨w.heap.size + 1, 1, none⟩ = false := hw5.cells.2.2.2.2
                have r0 : w5.cell? ⟨w.heap.size, 0, none⟩ = some (.int .i64 0) := hw5.res.1
                have r1 : w5.cell? ⟨w.heap.size, 1, none⟩ = some (.string ⟨#[]⟩) := hw5.res.2.1
                have r2 : w5.cell? ⟨w.heap.size, 2, none⟩ = some (.int .i64 0) := hw5.res.2.2.1
                have rf0 : w5.frozen? ⟨w.heap.size, 0, none⟩ = false := hw5.res.2.2.2.1
                have rf1 : w5.frozen? ⟨w.heap.size, 1, none⟩ = false := hw5.res.2.2.2.2.1
                have rf2 : w5.frozen? ⟨w.heap.size, 2, none⟩ = false := hw5.res.2.2.2.2.2
                clear hw5
                have HPT : Hid (s.extract k e2 = ofL (pre l (s.data.toList.drop e2))) := Lib.hid (pre_text HL.out (by omega) (by omega))
                go_wp2_with fail
                refine bodyPost_ret (results14 _ _ w.heap.size _ _ _ rfl (HDN.out _ rfl).1 (HDN.out _ rfl).2.1 (HDN.out _ rfl).2.2.1) rfl ?_
                refine ⟨(HDN.out _ rfl).2.2.2, ?_⟩
                rw [HN.out]
                rw [HPT.out]
                simp only [List.length_drop]
                rw [show s.size - (s.data.toList.length - e2) = e2 by simp; omega]
                rfl
              · have h40' : ¬ (e2 : Int) - (k : Int) ≤ 40 := by omega
                have HN : Hid (one l = none) := Lib.hid (by rw [HNUM.out, HNR.out, numOne, if_neg (by rw [HL.out]; simp; omega)])
                have hke : (k : Int) ≤ (e2 : Int) := by omega
                have hes : (e2 : Int) ≤ (s.size : Int) := by omega
                go_region
                have hw5 := ((HT.out.set0 (.int .i64 3)).set1 (.string (s.extract k e2))).drew
                obtain ⟨w5, he5⟩ : ∃ w5, ((w1.setCell ⟨w.heap.size + 1, 0, none⟩ (.int .i64 3)).setCell ⟨w.heap.size + 1, 1, none⟩ (.string (s.extract k e2))).drew = w5 := ⟨_, rfl⟩
                rw [he5] at hw5 ⊢
                have HDN := Lib.hid hw5.done
                clear he5 y0 y1 y2 yf0 yf1 r0 r1 r2 rf0 rf1 rf2
                have y0 : w5.cell? ⟨w.heap.size + 1, 0, none⟩ = some (.int .i64 3) := hw5.cells.1
                have y1 : w5.cell? ⟨w.heap.size + 1, 1, none⟩ = some (.string (s.extract k e2)) := hw5.cells.2.1
                have y2 : w5.cell? ⟨w.heap.size + 1, 2, none⟩ = some (.int .i64 (k : Int)) := hw5.cells.2.2.1
                have yf0 : w5.frozen? ⟨w.heap.size + 1, 0, none⟩ = false := hw5.cells.2.2.2.1
                have yf1 : w5.frozen? ⟨w.heap.size + 1, 1, none⟩ = false := hw5.cells.2.2.2.2
                have r0 : w5.cell? ⟨w.heap.size, 0, none⟩ = some (.int .i64 0) := hw5.res.1
                have r1 : w5.cell? ⟨w.heap.size, 1, none⟩ = some (.string ⟨#[]⟩) := hw5.res.2.1
                have r2 : w5.cell? ⟨w.heap.size, 2, none⟩ = some (.int .i64 0) := hw5.res.2.2.1
                have rf0 : w5.frozen? ⟨w.heap.size, 0, none⟩ = false := hw5.res.2.2.2.1
                have rf1 : w5.frozen? ⟨w.heap.size, 1, none⟩ = false := hw5.res.2.2.2.2.1
                have rf2 : w5.frozen? ⟨w.heap.size, 2, none⟩ = false := hw5.res.2.2.2.2.2
                clear hw5
                have HPT : Hid (s.extract k e2 = ofL (pre l (s.data.toList.drop e2))) := Lib.hid (pre_text HL.out (by omega) (by omega))
                go_wp2_with fail
                refine bodyPost_ret (results14 _ _ w.heap.size _ _ _ rfl (HDN.out _ rfl).1 (HDN.out _ rfl).2.1 (HDN.out _ rfl).2.2.1) rfl ?_
                refine ⟨(HDN.out _ rfl).2.2.2, ?_⟩
                rw [HN.out]
                exact ⟨_, _, _, _, rfl⟩
            | false =>
              have HNR := Lib.hid (hnr.trans (num_stop false hh1 (.inr (.inr (by rw [hhd2]; exact hdd)))))
              have HDD := Lib.hid hdd
              clear hh1 hnr hhd1 hhd2 h46 hdd
              go_wp2_with fail
              clear hd0 hd1
              with_reducible refine (rdigit _ _).mono ?_
              rw [HDD.out]
              rintro e w3 ⟨rfl, rfl⟩
              go_wp2_with fail
              by_cases h40 : e1 - k ≤ 40
              · have h40' : (e1 : Int) - (k : Int) ≤ 40 := by omega
                have HN : Hid (one l = some (3, pre l (s.data.toList.drop e1), s.data.toList.drop e1)) := Lib.hid (by rw [HNUM.out, HNR.out, numOne, if_pos (by rw [HL.out]; simp; omega)])
                have hke : (k : Int) ≤ (e1 : Int) := by omega
                have hes : (e1 : Int) ≤ (s.size : Int) := by omega
                go_region
                have hw5 := ((HT.out.set0 (.int .i64 3)).set1 (.string (s.extract k e1))).drew
                obtain ⟨w5, he5⟩ : ∃ w5, ((w1.setCell ⟨w.heap.size + 1, 0, none⟩ (.int .i64 3)).setCell ⟨w.heap.size + 1, 1, none⟩ (.string (s.extract k e1))).drew = w5 := ⟨_, rfl⟩
                rw [he5] at hw5 ⊢
                have HDN := Lib.hid hw5.done
                clear he5 y0 y1 y2 yf0 yf1 r0 r1 r2 rf0 rf1 rf2
                have y0 : w5.cell? ⟨w.heap.size + 1, 0, none⟩ = some (.int .i64 3) := hw5.cells.1
                have y1 : w5.cell? ⟨w.heap.size + 1, 1, none⟩ = some (.string (s.extract k e1)) := hw5.cells.2.1
                have y2 : w5.cell? ⟨w.heap.size + 1, 2, none⟩ = some (.int .i64 (k : Int)) := hw5.cells.2.2.1
                have yf0 : w5.frozen? ⟨w.heap.size + 1, 0, none⟩ = false := hw5.cells.2.2.2.1
                have yf1 : w5.frozen? ⟨w.heap.size + 1, 1, none⟩ = false := hw5.cells.2.2.2.2
                have r0 : w5.cell? ⟨w.heap.size, 0, none⟩ = some (.int .i64 0) := hw5.res.1
                have r1 : w5.cell? ⟨w.heap.size, 1, none⟩ = some (.string ⟨#[]⟩) := hw5.res.2.1
                have r2 : w5.cell? ⟨w.heap.size, 2, none⟩ = some (.int .i64 0) := hw5.res.2.2.1
                have rf0 : w5.frozen? ⟨w.heap.size, 0, none⟩ = false := hw5.res.2.2.2.1
                have rf1 : w5.frozen? ⟨w.heap.size, 1, none⟩ = false := hw5.res.2.2.2.2.1
                have rf2 : w5.frozen? ⟨w.heap.size, 2, none⟩ = false := hw5.res.2.2.2.2.2
                clear hw5
                have HPT : Hid (s.extract k e1 = ofL (pre l (s.data.toList.drop e1))) := Lib.hid (pre_text HL.out (by omega) (by omega))
                go_wp2_with fail
                refine bodyPost_ret (results14 _ _ w.heap.size _ _ _ rfl (HDN.out _ rfl).1 (HDN.out _ rfl).2.1 (HDN.out _ rfl).2.2.1) rfl ?_
                refine ⟨(HDN.out _ rfl).2.2.2, ?_⟩
                rw [HN.out]
                rw [HPT.out]
                simp only [List.length_drop]
                rw [show s.size - (s.data.toList.length - e1) = e1 by simp; omega]
                rfl
              · have h40' : ¬ (e1 : Int) - (k : Int) ≤ 40 := by omega
                have HN : Hid (one l = none) := Lib.hid (by rw [HNUM.out, HNR.out, numOne, if_neg (by rw [HL.out]; simp; omega)])
                have hke : (k : Int) ≤ (e1 : Int) := by omega
                have hes : (e1 : Int) ≤ (s.size : Int) := by omega
                go_region
                have hw5 := ((HT.out.set0 (.int .i64 3)).set1 (.string (s.extract k e1))).drew
                obtain ⟨w5, he5⟩ : ∃ w5, ((w1.setCell ⟨w.heap.size + 1, 0, none⟩ (.int .i64 3)).setCell ⟨w.heap.size + 1, 1, none⟩ (.string (s.extract k e1))).drew = w5 := ⟨_, rfl⟩
                rw [he5] at hw5 ⊢
                have HDN := Lib.hid hw5.done
                clear he5 y0 y1 y2 yf0 yf1 r0 r1 r2 rf0 rf1 rf2
                have y0 : w5.cell? ⟨w.heap.size + 1, 0, none⟩ = some (.int .i64 3) := hw5.cells.1
                have y1 : w5.cell? ⟨w.heap.size + 1, 1, none⟩ = some (.string (s.extract k e1)) := hw5.cells.2.1
                have y2 : w5.cell? ⟨w.heap.size + 1, 2, none⟩ = some (.int .i64 (k : Int)) := hw5.cells.2.2.1
                have yf0 : w5.frozen? ⟨w.heap.size + 1, 0, none⟩ = false := hw5.cells.2.2.2.1
                have yf1 : w5.frozen? ⟨w.heap.size + 1, 1, none⟩ = false := hw5.cells.2.2.2.2
                have r0 : w5.cell? ⟨w.heap.size, 0, none⟩ = some (.int .i64 0) := hw5.res.1
                have r1 : w5.cell? ⟨w.heap.size, 1, none⟩ = some (.string ⟨#[]⟩) := hw5.res.2.1
                have r2 : w5.cell? ⟨w.heap.size, 2, none⟩ = some (.int .i64 0) := hw5.res.2.2.1
                have rf0 : w5.frozen? ⟨w.heap.size, 0, none⟩ = false := hw5.res.2.2.2.1
                have rf1 : w5.frozen? ⟨w.heap.size, 1, none⟩ = false := hw5.res.2.2.2.2.1
                have rf2 : w5.frozen? ⟨w.heap.size, 2, none⟩ = false := hw5.res.2.2.2.2.2
                clear hw5
                have HPT : Hid (s.extract k e1 = ofL (pre l (s.data.toList.drop e1))) := Lib.hid (pre_text HL.out (by omega) (by omega))
                go_wp2_with fail
                refine bodyPost_ret (results14 _ _ w.heap.size _ _ _ rfl (HDN.out _ rfl).1 (HDN.out _ rfl).2.1 (HDN.out _ rfl).2.2.1) rfl ?_
                refine ⟨(HDN.out _ rfl).2.2.2, ?_⟩
                rw [HN.out]
                exact ⟨_, _, _, _, rfl⟩
          · have b46 : ((d0.toNat : Int) == 46) = false := by simp; omega
            have HNR := Lib.hid (hnr.trans (num_stop false hh1 (.inr (.inl (by rw [hhd1]; exact h46)))))
            clear hh1 hnr hhd1 hhd2 h46 hd1
            go_wp2_with fail
            clear hd0
            by_cases h40 : e1 - k ≤ 40
            · have h40' : (e1 : Int) - (k : Int) ≤ 40 := by omega
              have HN : Hid (one l = some (3, pre l (s.data.toList.drop e1), s.data.toList.drop e1)) := Lib.hid (by rw [HNUM.out, HNR.out, numOne, if_pos (by rw [HL.out]; simp; omega)])
              have hke : (k : Int) ≤ (e1 : Int) := by omega
              have hes : (e1 : Int) ≤ (s.size : Int) := by omega
              go_region
              have hw5 := ((HT.out.set0 (.int .i64 3)).set1 (.string (s.extract k e1))).drew
              obtain ⟨w5, he5⟩ : ∃ w5, ((w1.setCell ⟨w.heap.size + 1, 0, none⟩ (.int .i64 3)).setCell ⟨w.heap.size + 1, 1, none⟩ (.string (s.extract k e1))).drew = w5 := ⟨_, rfl⟩
              rw [he5] at hw5 ⊢
              have HDN := Lib.hid hw5.done
              clear he5 y0 y1 y2 yf0 yf1 r0 r1 r2 rf0 rf1 rf2
              have y0 : w5.cell? ⟨w.heap.size + 1, 0, none⟩ = some (.int .i64 3) := hw5.cells.1
              have y1 : w5.cell? ⟨w.heap.size + 1, 1, none⟩ = some (.string (s.extract k e1)) := hw5.cells.2.1
              have y2 : w5.cell? ⟨w.heap.size + 1, 2, none⟩ = some (.int .i64 (k : Int)) := hw5.cells.2.2.1
              have yf0 : w5.frozen? ⟨w.heap.size + 1, 0, none⟩ = false := hw5.cells.2.2.2.1
              have yf1 : w5.frozen? ⟨w.heap.size + 1, 1, none⟩ = false := hw5.cells.2.2.2.2
              have r0 : w5.cell? ⟨w.heap.size, 0, none⟩ = some (.int .i64 0) := hw5.res.1
              have r1 : w5.cell? ⟨w.heap.size, 1, none⟩ = some (.string ⟨#[]⟩) := hw5.res.2.1
              have r2 : w5.cell? ⟨w.heap.size, 2, none⟩ = some (.int .i64 0) := hw5.res.2.2.1
              have rf0 : w5.frozen? ⟨w.heap.size, 0, none⟩ = false := hw5.res.2.2.2.1
              have rf1 : w5.frozen? ⟨w.heap.size, 1, none⟩ = false := hw5.res.2.2.2.2.1
              have rf2 : w5.frozen? ⟨w.heap.size, 2, none⟩ = false := hw5.res.2.2.2.2.2
              clear hw5
              have HPT : Hid (s.extract k e1 = ofL (pre l (s.data.toList.drop e1))) := Lib.hid (pre_text HL.out (by omega) (by omega))
              go_wp2_with fail
              refine bodyPost_ret (results14 _ _ w.heap.size _ _ _ rfl (HDN.out _ rfl).1 (HDN.out _ rfl).2.1 (HDN.out _ rfl).2.2.1) rfl ?_
              refine ⟨(HDN.out _ rfl).2.2.2, ?_⟩
              rw [HN.out]
              rw [HPT.out]
              simp only [List.length_drop]
              rw [show s.size - (s.data.toList.length - e1) = e1 by simp; omega]
              rfl
            · have h40' : ¬ (e1 : Int) - (k : Int) ≤ 40 := by omega
              have HN : Hid (one l = none) := Lib.hid (by rw [HNUM.out, HNR.out, numOne, if_neg (by rw [HL.out]; simp; omega)])
              have hke : (k : Int) ≤ (e1 : Int) := by omega
              have hes : (e1 : Int) ≤ (s.size : Int) := by omega
              go_region
              have hw5 := ((HT.out.set0 (.int .i64 3)).set1 (.string (s.extract k e1))).drew
              obtain ⟨w5, he5⟩ : ∃ w5, ((w1.setCell ⟨w.heap.size + 1, 0, none⟩ (.int .i64 3)).setCell ⟨w.heap.size + 1, 1, none⟩ (.string (s.extract k e1))).drew = w5 := ⟨_, rfl⟩
              rw [he5] at hw5 ⊢
              have HDN := Lib.hid hw5.done
              clear he5 y0 y1 y2 yf0 yf1 r0 r1 r2 rf0 rf1 rf2
              have y0 : w5.cell? ⟨w.heap.size + 1, 0, none⟩ = some (.int .i64 3) := hw5.cells.1
              have y1 : w5.cell? ⟨w.heap.size + 1, 1, none⟩ = some (.string (s.extract k e1)) := hw5.cells.2.1
              have y2 : w5.cell? ⟨w.heap.size + 1, 2, none⟩ = some (.int .i64 (k : Int)) := hw5.cells.2.2.1
              have yf0 : w5.frozen? ⟨w.heap.size + 1, 0, none⟩ = false := hw5.cells.2.2.2.1
              have yf1 : w5.frozen? ⟨w.heap.size + 1, 1, none⟩ = false := hw5.cells.2.2.2.2
              have r0 : w5.cell? ⟨w.heap.size, 0, none⟩ = some (.int .i64 0) := hw5.res.1
              have r1 : w5.cell? ⟨w.heap.size, 1, none⟩ = some (.string ⟨#[]⟩) := hw5.res.2.1
              have r2 : w5.cell? ⟨w.heap.size, 2, none⟩ = some (.int .i64 0) := hw5.res.2.2.1
              have rf0 : w5.frozen? ⟨w.heap.size, 0, none⟩ = false := hw5.res.2.2.2.1
              have rf1 : w5.frozen? ⟨w.heap.size, 1, none⟩ = false := hw5.res.2.2.2.2.1
              have rf2 : w5.frozen? ⟨w.heap.size, 2, none⟩ = false := hw5.res.2.2.2.2.2
              clear hw5
              have HPT : Hid (s.extract k e1 = ofL (pre l (s.data.toList.drop e1))) := Lib.hid (pre_text HL.out (by omega) (by omega))
              go_wp2_with fail
              refine bodyPost_ret (results14 _ _ w.heap.size _ _ _ rfl (HDN.out _ rfl).1 (HDN.out _ rfl).2.1 (HDN.out _ rfl).2.2.1) rfl ?_
              refine ⟨(HDN.out _ rfl).2.2.2, ?_⟩
              rw [HN.out]
              exact ⟨_, _, _, _, rfl⟩
        · have h1' : ¬ (e1 : Int) + 1 < (s.size : Int) := by omega
          have HNR := Lib.hid (hnr.trans (num_stop false hh1 (.inr (.inr (by rw [hd_out s (e1 + 1) (by omega)]; exact digit0)))))
          clear hh1 hnr
          go_wp2_with fail
          by_cases h40 : e1 - k ≤ 40
          · have h40' : (e1 : Int) - (k : Int) ≤ 40 := by omega
            have HN : Hid (one l = some (3, pre l (s.data.toList.drop e1), s.data.toList.drop e1)) := Lib.hid (by rw [HNUM.out, HNR.out, numOne, if_pos (by rw [HL.out]; simp; omega)])
            have hke : (k : Int) ≤ (e1 : Int) := by omega
            have hes : (e1 : Int) ≤ (s.size : Int) := by omega
            go_region
            have hw5 := ((HT.out.set0 (.int .i64 3)).set1 (.string (s.extract k e1))).drew
            obtain ⟨w5, he5⟩ : ∃ w5, ((w1.setCell ⟨w.heap.size + 1, 0, none⟩ (.int .i64 3)).setCell ⟨w.heap.size + 1, 1, none⟩ (.string (s.extract k e1))).drew = w5 := ⟨_, rfl⟩
            rw [he5] at hw5 ⊢
            have HDN := Lib.hid hw5.done
            clear he5 y0 y1 y2 yf0 yf1 r0 r1 r2 rf0 rf1 rf2
            have y0 : w5.cell? ⟨w.heap.size + 1, 0, none⟩ = some (.int .i64 3) := hw5.cells.1
            have y1 : w5.cell? ⟨w.heap.size + 1, 1, none⟩ = some (.string (s.extract k e1)) := hw5.cells.2.1
            have y2 : w5.cell? ⟨w.heap.size + 1, 2, none⟩ = some (.int .i64 (k : Int)) := hw5.cells.2.2.1
            have yf0 : w5.frozen? ⟨w.heap.size + 1, 0, none⟩ = false := hw5.cells.2.2.2.1
            have yf1 : w5.frozen? ⟨w.heap.size + 1, 1, none⟩ = false := hw5.cells.2.2.2.2
            have r0 : w5.cell? ⟨w.heap.size, 0, none⟩ = some (.int .i64 0) := hw5.res.1
            have r1 : w5.cell? ⟨w.heap.size, 1, none⟩ = some (.string ⟨#[]⟩) := hw5.res.2.1
            have r2 : w5.cell? ⟨w.heap.size, 2, none⟩ = some (.int .i64 0) := hw5.res.2.2.1
            have rf0 : w5.frozen? ⟨w.heap.size, 0, none⟩ = false := hw5.res.2.2.2.1
            have rf1 : w5.frozen? ⟨w.heap.size, 1, none⟩ = false := hw5.res.2.2.2.2.1
            have rf2 : w5.frozen? ⟨w.heap.size, 2, none⟩ = false := hw5.res.2.2.2.2.2
            clear hw5
            have HPT : Hid (s.extract k e1 = ofL (pre l (s.data.toList.drop e1))) := Lib.hid (pre_text HL.out (by omega) (by omega))
            go_wp2_with fail
            refine bodyPost_ret (results14 _ _ w.heap.size _ _ _ rfl (HDN.out _ rfl).1 (HDN.out _ rfl).2.1 (HDN.out _ rfl).2.2.1) rfl ?_
            refine ⟨(HDN.out _ rfl).2.2.2, ?_⟩
            rw [HN.out]
            rw [HPT.out]
            simp only [List.length_drop]
            rw [show s.size - (s.data.toList.length - e1) = e1 by simp; omega]
            rfl
          · have h40' : ¬ (e1 : Int) - (k : Int) ≤ 40 := by omega
            have HN : Hid (one l = none) := Lib.hid (by rw [HNUM.out, HNR.out, numOne, if_neg (by rw [HL.out]; simp; omega)])
            have hke : (k : Int) ≤ (e1 : Int) := by omega
            have hes : (e1 : Int) ≤ (s.size : Int) := by omega
            go_region
            have hw5 := ((HT.out.set0 (.int .i64 3)).set1 (.string (s.extract k e1))).drew
            obtain ⟨w5, he5⟩ : ∃ w5, ((w1.setCell ⟨w.heap.size + 1, 0, none⟩ (.int .i64 3)).setCell ⟨w.heap.size + 1, 1, none⟩ (.string (s.extract k e1))).drew = w5 := ⟨_, rfl⟩
            rw [he5] at hw5 ⊢
            have HDN := Lib.hid hw5.done
            clear he5 y0 y1 y2 yf0 yf1 r0 r1 r2 rf0 rf1 rf2
            have y0 : w5.cell? ⟨w.heap.size + 1, 0, none⟩ = some (.int .i64 3) := hw5.cells.1
            have y1 : w5.cell? ⟨w.heap.size + 1, 1, none⟩ = some (.string (s.extract k e1)) := hw5.cells.2.1
            have y2 : w5.cell? ⟨w.heap.size + 1, 2, none⟩ = some (.int .i64 (k : Int)) := hw5.cells.2.2.1
            have yf0 : w5.frozen? ⟨w.heap.size + 1, 0, none⟩ = false := hw5.cells.2.2.2.1
            have yf1 : w5.frozen? ⟨w.heap.size + 1, 1, none⟩ = false := hw5.cells.2.2.2.2
            have r0 : w5.cell? ⟨w.heap.size, 0, none⟩ = some (.int .i64 0) := hw5.res.1
            have r1 : w5.cell? ⟨w.heap.size, 1, none⟩ = some (.string ⟨#[]⟩) := hw5.res.2.1
            have r2 : w5.cell? ⟨w.heap.size, 2, none⟩ = some (.int .i64 0) := hw5.res.2.2.1
            have rf0 : w5.frozen? ⟨w.heap.size, 0, none⟩ = false := hw5.res.2.2.2.1
            have rf1 : w5.frozen? ⟨w.heap.size, 1, none⟩ = false := hw5.res.2.2.2.2.1
            have rf2 : w5.frozen? ⟨w.heap.size, 2, none⟩ = false := hw5.res.2.2.2.2.2
            clear hw5
            have HPT : Hid (s.extract k e1 = ofL (pre l (s.data.toList.drop e1))) := Lib.hid (pre_text HL.out (by omega) (by omega))
            go_wp2_with fail
            refine bodyPost_ret (results14 _ _ w.heap.size _ _ _ rfl (HDN.out _ rfl).1 (HDN.out _ rfl).2.1 (HDN.out _ rfl).2.2.1) rfl ?_
            refine ⟨(HDN.out _ rfl).2.2.2, ?_⟩
            rw [HN.out]
            exact ⟨_, _, _, _, rfl⟩
      | false =>
        have HDB := Lib.hid hdb
        by_cases h45 : c.toNat = 45
        · have b45 : ((c.toNat : Int) == 45) = true := by simp; omega
          by_cases hk1 : k + 1 < s.size
          · have hk1' : (k : Int) + 1 < (s.size : Int) := by omega
            have hh := hd_in s (k + 1) hk1
            obtain ⟨d, hdd⟩ : ∃ d, s[k + 1] = d := ⟨_, rfl⟩
            rw [hdd] at hh
            cases hm : digitB d with
            | true =>
              have HNUM := Lib.hid (show one l = numOne l (numR false (s.data.toList.drop (k + 1))) by rw [HONE.out, one1, if_neg (by simp [hlb]), if_pos (by simp [minus, h45, hh, hm]), ← HD1.out]; rfl)
              have HMD := Lib.hid hm
              clear hlb hq hdb h45 hh hm
              refine (rletter _ _).mono ?_
              rw [HLB.out]
              rintro e w3 ⟨rfl, rfl⟩
              go_wp2_with fail
              with_reducible refine (rdigit _ _).mono ?_
              rw [HDB.out]
              rintro e w3 ⟨rfl, rfl⟩
              go_wp2_with fail
              clear hdd
              with_reducible refine (rdigit _ _).mono ?_
              rw [HMD.out]
              rintro e w3 ⟨rfl, rfl⟩
              go_wp2_with fail
              obtain ⟨hd1, hd2, hd3⟩ := spanE_drop s (k + 1) digitB (by omega)
              obtain ⟨e1, he1⟩ : ∃ e1, spanE s (k + 1) digitB = e1 := ⟨_, rfl⟩
              rw [he1] at hd1 hd2 hd3
              have hh1 : digitB (hd (s.data.toList.drop e1)) = false := by rw [hd1]; exact dw_hd _
              have hnr : numR false (s.data.toList.drop (k + 1)) = numR false (s.data.toList.drop e1) := by rw [numR_dw, ← hd1]
              have hsp := spanD s (k + 1) w1 hs (by omega)
              rw [he1, show ((k + 1 : Nat) : Int) = (k : Int) + 1 by omega] at hsp
              with_reducible refine hsp.mono ?_
              clear hsp he1 hd1
              rintro e w3 ⟨rfl, rfl⟩
              have he0 : (0 : Int) ≤ (e1 : Int) := by omega
              by_cases h1 : e1 + 1 < s.size
              · have h1' : (e1 : Int) + 1 < (s.size : Int) := by omega
                have h1'' : (e1 : Int) < (s.size : Int) := by omega
                have hhd1 := hd_in s e1 (by omega)
                have hhd2 := hd_in s (e1 + 1) h1
                obtain ⟨d0, hd0⟩ : ∃ d0, s[e1] = d0 := ⟨_, rfl⟩
                obtain ⟨d1, hd1⟩ : ∃ d1, s[e1 + 1] = d1 := ⟨_, rfl⟩
                rw [hd0] at hhd1
                rw [hd1] at hhd2
                by_cases h46 : d0.toNat = 46
                · have b46 : ((d0.toNat : Int) == 46) = true := by simp; omega
                  cases hdd : digitB d1 with
                  | true =>
                    obtain ⟨hq1, hq2, hq3⟩ := spanE_drop s (e1 + 1) digitB (by omega)
                    obtain ⟨e2, he2⟩ : ∃ e2, spanE s (e1 + 1) digitB = e2 := ⟨_, rfl⟩
                    rw [he2] at hq1 hq2 hq3
                    have HNR := Lib.hid (hnr.trans ((num_point hh1 (by rw [hhd1]; exact h46) (by rw [hhd2]; exact hdd)).2.trans ((numR_true _).trans hq1.symm)))
                    have HE2 := Lib.hid he2
                    have HDD := Lib.hid hdd
                    clear hh1 hnr hhd1 hhd2 h46 hdd hq1 he2
                    go_wp2_with fail
                    clear hd0 hd1
                    with_reducible refine (rdigit _ _).mono ?_
                    rw [HDD.out]
                    rintro e w3 ⟨rfl, rfl⟩
                    go_wp2_with fail
                    have hsp := spanD s (e1 + 1) w1 hs (by omega)
                    rw [HE2.out, show ((e1 + 1 : Nat) : Int) = (e1 : Int) + 1 by omega] at hsp
                    with_reducible refine hsp.mono ?_
                    clear hsp
                    rintro e w3 ⟨rfl, rfl⟩
                    go_wp2_with fail
                    by_cases h40 : e2 - k ≤ 40
                    · have h40' : (e2 : Int) - (k : Int) ≤ 40 := by omega
                      have HN : Hid (one l = some (3, pre l (s.data.toList.drop e2), s.data.toList.drop e2)) := Lib.hid (by rw [HNUM.out, HNR.out, numOne, if_pos (by rw [HL.out]; simp; omega)])
                      have hke : (k : Int) ≤ (e2 : Int) := by omega
                      have hes : (e2 : Int) ≤ (s.size : Int) := by omega
                      go_region
                      have hw5 := ((HT.out.set0 (.int .i64 3)).set1 (.string (s.extract k e2))).drew
                      obtain ⟨w5, he5⟩ : ∃ w5, ((w1.setCell ⟨w.heap.size + 1, 0, none⟩ (.int .i64 3)).setCell ⟨w.heap.size + 1, 1, none⟩ (.string (s.extract k e2))).drew = w5 := ⟨_, rfl⟩
                      rw [he5] at hw5 ⊢
                      have HDN := Lib.hid hw5.done
                      clear he5 y0 y1 y2 yf0 yf1 r0 r1 r2 rf0 rf1 rf2
                      have y0 : w5.cell? ⟨w.heap.size + 1, 0, none⟩ = some (.int .i64 3) := hw5.cells.1
                      have y1 : w5.cell? ⟨w.heap.size + 1, 1, none⟩ = some (.string (s.extract k e2)) := hw5.cells.2.1
                      have y2 : w5.cell? ⟨w.heap.size + 1, 2, none⟩ = some (.int .i64 (k : Int)) := hw5.cells.2.2.1
                      have yf0 : w5.frozen? ⟨w.heap.size + 1, 0, none⟩ = false := hw5.cells.2.2.2.1
                      have yf1 : w5.frozen? ⟨w.heap.size + 1, 1, none⟩ = false := hw5.cells.2.2.2.2
                      have r0 : w5.cell? ⟨w.heap.size, 0, none⟩ = some (.int .i64 0) := hw5.res.1
                      have r1 : w5.cell? ⟨w.heap.size, 1, none⟩ = some (.string ⟨#[]⟩) := hw5.res.2.1
                      have r2 : w5.cell? ⟨w.heap.size, 2, none⟩ = some (.int .i64 0) := hw5.res.2.2.1
                      have rf0 : w5.frozen? ⟨w.heap.size, 0, none⟩ = false := hw5.res.2.2.2.1
                      have rf1 : w5.frozen? ⟨w.heap.size, 1, none⟩ = false := hw5.res.2.2.2.2.1
                      have rf2 : w5.frozen? ⟨w.heap.size, 2, none⟩ = false := hw5.res.2.2.2.2.2
                      clear hw5
                      have HPT : Hid (s.extract k e2 = ofL (pre l (s.data.toList.drop e2))) := Lib.hid (pre_text HL.out (by omega) (by omega))
                      go_wp2_with fail
                      refine bodyPost_ret (results14 _ _ w.heap.size _ _ _ rfl (HDN.out _ rfl).1 (HDN.out _ rfl).2.1 (HDN.out _ rfl).2.2.1) rfl ?_
                      refine ⟨(HDN.out _ rfl).2.2.2, ?_⟩
                      rw [HN.out]
                      rw [HPT.out]
                      simp only [List.length_drop]
                      rw [show s.size - (s.data.toList.length - e2) = e2 by simp; omega]
                      rfl
                    · have h40' : ¬ (e2 : Int) - (k : Int) ≤ 40 := by omega
                      have HN : Hid (one l = none) := Lib.hid (by rw [HNUM.out, HNR.out, numOne, if_neg (by rw [HL.out]; simp; omega)])
                      have hke : (k : Int) ≤ (e2 : Int) := by omega
                      have hes : (e2 : Int) ≤ (s.size : Int) := by omega
                      go_region
                      have hw5 := ((HT.out.set0 (.int .i64 3)).set1 (.string (s.extract k e2))).drew
                      obtain ⟨w5, he5⟩ : ∃ w5, ((w1.setCell ⟨w.heap.size + 1, 0, none⟩ (.int .i64 3)).setCell ⟨w.heap.size + 1, 1, none⟩ (.string (s.extract k e2))).drew = w5 := ⟨_, rfl⟩
                      rw [he5] at hw5 ⊢
                      have HDN := Lib.hid hw5.done
                      clear he5 y0 y1 y2 yf0 yf1 r0 r1 r2 rf0 rf1 rf2
                      have y0 : w5.cell? ⟨w.heap.size + 1, 0, none⟩ = some (.int .i64 3) := hw5.cells.1
                      have y1 : w5.cell? ⟨w.heap.size + 1, 1, none⟩ = some (.string (s.extract k e2)) := hw5.cells.2.1
                      have y2 : w5.cell? ⟨w.heap.size + 1, 2, none⟩ = some (.int .i64 (k : Int)) := hw5.cells.2.2.1
                      have yf0 : w5.frozen? ⟨w.heap.size + 1, 0, none⟩ = false := hw5.cells.2.2.2.1
                      have yf1 : w5.frozen? ⟨w.heap.size + 1, 1, none⟩ = false := hw5.cells.2.2.2.2
                      have r0 : w5.cell? ⟨w.heap.size, 0, none⟩ = some (.int .i64 0) := hw5.res.1
                      have r1 : w5.cell? ⟨w.heap.size, 1, none⟩ = some (.string ⟨#[]⟩) := hw5.res.2.1
                      have r2 : w5.cell? ⟨w.heap.size, 2, none⟩ = some (.int .i64 0) := hw5.res.2.2.1
                      have rf0 : w5.frozen? ⟨w.heap.size, 0, none⟩ = false := hw5.res.2.2.2.1
                      have rf1 : w5.frozen? ⟨w.heap.size, 1, none⟩ = false := hw5.res.2.2.2.2.1
                      have rf2 : w5.frozen? ⟨w.heap.size, 2, none⟩ = false := hw5.res.2.2.2.2.2
                      clear hw5
                      have HPT : Hid (s.extract k e2 = ofL (pre l (s.data.toList.drop e2))) := Lib.hid (pre_text HL.out (by omega) (by omega))
                      go_wp2_with fail
                      refine bodyPost_ret (results14 _ _ w.heap.size _ _ _ rfl (HDN.out _ rfl).1 (HDN.out _ rfl).2.1 (HDN.out _ rfl).2.2.1) rfl ?_
                      refine ⟨(HDN.out _ rfl).2.2.2, ?_⟩
                      rw [HN.out]
                      exact ⟨_, _, _, _, rfl⟩
                  | false =>
                    have HNR := Lib.hid (hnr.trans (num_stop false hh1 (.inr (.inr (by rw [hhd2]; exact hdd)))))
                    have HDD := Lib.hid hdd
                    clear hh1 hnr hhd1 hhd2 h46 hdd
                    go_wp2_with fail
                    clear hd0 hd1
                    with_reducible refine (rdigit _ _).mono ?_
                    rw [HDD.out]
                    rintro e w3 ⟨rfl, rfl⟩
                    go_wp2_with fail
                    by_cases h40 : e1 - k ≤ 40
                    · have h40' : (e1 : Int) - (k : Int) ≤ 40 := by omega
                      have HN : Hid (one l = some (3, pre l (s.data.toList.drop e1), s.data.toList.drop e1)) := Lib.hid (by rw [HNUM.out, HNR.out, numOne, if_pos (by rw [HL.out]; simp; omega)])
                      have hke : (k : Int) ≤ (e1 : Int) := by omega
                      have hes : (e1 : Int) ≤ (s.size : Int) := by omega
                      go_region
                      have hw5 := ((HT.out.set0 (.int .i64 3)).set1 (.string (s.extract k e1))).drew
                      obtain ⟨w5, he5⟩ : ∃ w5, ((w1.setCell ⟨w.heap.size + 1, 0, none⟩ (.int .i64 3)).setCell ⟨w.heap.size + 1, 1, none⟩ (.string (s.extract k e1))).drew = w5 := ⟨_, rfl⟩
                      rw [he5] at hw5 ⊢
                      have HDN := Lib.hid hw5.done
                      clear he5 y0 y1 y2 yf0 yf1 r0 r1 r2 rf0 rf1 rf2
                      have y0 : w5.cell? ⟨w.heap.size + 1, 0, none⟩ = some (.int .i64 3) := hw5.cells.1
                      have y1 : w5.cell? ⟨w.heap.size + 1, 1, none⟩ = some (.string (s.extract k e1)) := hw5.cells.2.1
                      have y2 : w5.cell? ⟨w.heap.size + 1, 2, none⟩ = some (.int .i64 (k : Int)) := hw5.cells.2.2.1
                      have yf0 : w5.frozen? ⟨w.heap.size + 1, 0, none⟩ = false := hw5.cells.2.2.2.1
                      have yf1 : w5.frozen? ⟨w.heap.size + 1, 1, none⟩ = false := hw5.cells.2.2.2.2
                      have r0 : w5.cell? ⟨w.heap.size, 0, none⟩ = some (.int .i64 0) := hw5.res.1
                      have r1 : w5.cell? ⟨w.heap.size, 1, none⟩ = some (.string ⟨#[]⟩) := hw5.res.2.1
                      have r2 : w5.cell? ⟨w.heap.size, 2, none⟩ = some (.int .i64 0) := hw5.res.2.2.1
                      have rf0 : w5.frozen? ⟨w.heap.size, 0, none⟩ = false := hw5.res.2.2.2.1
                      have rf1 : w5.frozen? ⟨w.heap.size, 1, none⟩ = false := hw5.res.2.2.2.2.1
                      have rf2 : w5.frozen? ⟨w.heap.size, 2, none⟩ = false := hw5.res.2.2.2.2.2
                      clear hw5
                      have HPT : Hid (s.extract k e1 = ofL (pre l (s.data.toList.drop e1))) := Lib.hid (pre_text HL.out (by omega) (by omega))
                      go_wp2_with fail
                      refine bodyPost_ret (results14 _ _ w.heap.size _ _ _ rfl (HDN.out _ rfl).1 (HDN.out _ rfl).2.1 (HDN.out _ rfl).2.2.1) rfl ?_
                      refine ⟨(HDN.out _ rfl).2.2.2, ?_⟩
                      rw [HN.out]
                      rw [HPT.out]
                      simp only [List.length_drop]
                      rw [show s.size - (s.data.toList.length - e1) = e1 by simp; omega]
                      rfl
                    · have h40' : ¬ (e1 : Int) - (k : Int) ≤ 40 := by omega
                      have HN : Hid (one l = none) := Lib.hid (by rw [HNUM.out, HNR.out, numOne, if_neg (by rw [HL.out]; simp; omega)])
                      have hke : (k : Int) ≤ (e1 : Int) := by omega
                      have hes : (e1 : Int) ≤ (s.size : Int) := by omega
                      go_region
                      have hw5 := ((HT.out.set0 (.int .i64 3)).set1 (.string (s.extract k e1))).drew
                      obtain ⟨w5, he5⟩ : ∃ w5, ((w1.setCell ⟨w.heap.size + 1, 0, none⟩ (.int .i64 3)).setCell ⟨w.heap.size + 1, 1, none⟩ (.string (s.extract k e1))).drew = w5 := ⟨_, rfl⟩
                      rw [he5] at hw5 ⊢
                      have HDN := Lib.hid hw5.done
                      clear he5 y0 y1 y2 yf0 yf1 r0 r1 r2 rf0 rf1 rf2
                      have y0 : w5.cell? ⟨w.heap.size + 1, 0, none⟩ = some (.int .i64 3) := hw5.cells.1
                      have y1 : w5.cell? ⟨w.heap.size + 1, 1, none⟩ = some (.string (s.extract k e1)) := hw5.cells.2.1
                      have y2 : w5.cell? ⟨w.heap.size + 1, 2, none⟩ = some (.int .i64 (k : Int)) := hw5.cells.2.2.1
                      have yf0 : w5.frozen? ⟨w.heap.size + 1, 0, none⟩ = false := hw5.cells.2.2.2.1
                      have yf1 : w5.frozen? ⟨w.heap.size + 1, 1, none⟩ = false := hw5.cells.2.2.2.2
                      have r0 : w5.cell? ⟨w.heap.size, 0, none⟩ = some (.int .i64 0) := hw5.res.1
                      have r1 : w5.cell? ⟨w.heap.size, 1, none⟩ = some (.string ⟨#[]⟩) := hw5.res.2.1
                      have r2 : w5.cell? ⟨w.heap.size, 2, none⟩ = some (.int .i64 0) := hw5.res.2.2.1
                      have rf0 : w5.frozen? ⟨w.heap.size, 0, none⟩ = false := hw5.res.2.2.2.1
                      have rf1 : w5.frozen? ⟨w.heap.size, 1, none⟩ = false := hw5.res.2.2.2.2.1
                      have rf2 : w5.frozen? ⟨w.heap.size, 2, none⟩ = false := hw5.res.2.2.2.2.2
                      clear hw5
                      have HPT : Hid (s.extract k e1 = ofL (pre l (s.data.toList.drop e1))) := Lib.hid (pre_text HL.out (by omega) (by omega))
                      go_wp2_with fail
                      refine bodyPost_ret (results14 _ _ w.heap.size _ _ _ rfl (HDN.out _ rfl).1 (HDN.out _ rfl).2.1 (HDN.out _ rfl).2.2.1) rfl ?_
                      refine ⟨(HDN.out _ rfl).2.2.2, ?_⟩
                      rw [HN.out]
                      exact ⟨_, _, _, _, rfl⟩
                · have b46 : ((d0.toNat : Int) == 46) = false := by simp; omega
                  have HNR := Lib.hid (hnr.trans (num_stop false hh1 (.inr (.inl (by rw [hhd1]; exact h46)))))
                  clear hh1 hnr hhd1 hhd2 h46 hd1
                  go_wp2_with fail
                  clear hd0
                  by_cases h40 : e1 - k ≤ 40
                  · have h40' : (e1 : Int) - (k : Int) ≤ 40 := by omega
                    have HN : Hid (one l = some (3, pre l (s.data.toList.drop e1), s.data.toList.drop e1)) := Lib.hid (by rw [HNUM.out, HNR.out, numOne, if_pos (by rw [HL.out]; simp; omega)])
                    have hke : (k : Int) ≤ (e1 : Int) := by omega
                    have hes : (e1 : Int) ≤ (s.size : Int) := by omega
                    go_region
                    have hw5 := ((HT.out.set0 (.int .i64 3)).set1 (.string (s.extract k e1))).drew
                    obtain ⟨w5, he5⟩ : ∃ w5, ((w1.setCell ⟨w.heap.size + 1, 0, none⟩ (.int .i64 3)).setCell ⟨w.heap.size + 1, 1, none⟩ (.string (s.extract k e1))).drew = w5 := ⟨_, rfl⟩
                    rw [he5] at hw5 ⊢
                    have HDN := Lib.hid hw5.done
                    clear he5 y0 y1 y2 yf0 yf1 r0 r1 r2 rf0 rf1 rf2
                    have y0 : w5.cell? ⟨w.heap.size + 1, 0, none⟩ = some (.int .i64 3) := hw5.cells.1
                    have y1 : w5.cell? ⟨w.heap.size + 1, 1, none⟩ = some (.string (s.extract k e1)) := hw5.cells.2.1
                    have y2 : w5.cell? ⟨w.heap.size + 1, 2, none⟩ = some (.int .i64 (k : Int)) := hw5.cells.2.2.1
                    have yf0 : w5.frozen? ⟨w.heap.size + 1, 0, none⟩ = false := hw5.cells.2.2.2.1
                    have yf1 : w5.frozen? ⟨w.heap.size + 1, 1, none⟩ = false := hw5.cells.2.2.2.2
                    have r0 : w5.cell? ⟨w.heap.size, 0, none⟩ = some (.int .i64 0) := hw5.res.1
                    have r1 : w5.cell? ⟨w.heap.size, 1, none⟩ = some (.string ⟨#[]⟩) := hw5.res.2.1
                    have r2 : w5.cell? ⟨w.heap.size, 2, none⟩ = some (.int .i64 0) := hw5.res.2.2.1
                    have rf0 : w5.frozen? ⟨w.heap.size, 0, none⟩ = false := hw5.res.2.2.2.1
                    have rf1 : w5.frozen? ⟨w.heap.size, 1, none⟩ = false := hw5.res.2.2.2.2.1
                    have rf2 : w5.frozen? ⟨w.heap.size, 2, none⟩ = false := hw5.res.2.2.2.2.2
                    clear hw5
                    have HPT : Hid (s.extract k e1 = ofL (pre l (s.data.toList.drop e1))) := Lib.hid (pre_text HL.out (by omega) (by omega))
                    go_wp2_with fail
                    refine bodyPost_ret (results14 _ _ w.heap.size _ _ _ rfl (HDN.out _ rfl).1 (HDN.out _ rfl).2.1 (HDN.out _ rfl).2.2.1) rfl ?_
                    refine ⟨(HDN.out _ rfl).2.2.2, ?_⟩
                    rw [HN.out]
                    rw [HPT.out]
                    simp only [List.length_drop]
                    rw [show s.size - (s.data.toList.length - e1) = e1 by simp; omega]
                    rfl
                  · have h40' : ¬ (e1 : Int) - (k : Int) ≤ 40 := by omega
                    have HN : Hid (one l = none) := Lib.hid (by rw [HNUM.out, HNR.out, numOne, if_neg (by rw [HL.out]; simp; omega)])
                    have hke : (k : Int) ≤ (e1 : Int) := by omega
                    have hes : (e1 : Int) ≤ (s.size : Int) := by omega
                    go_region
                    have hw5 := ((HT.out.set0 (.int .i64 3)).set1 (.string (s.extract k e1))).drew
                    obtain ⟨w5, he5⟩ : ∃ w5, ((w1.setCell ⟨w.heap.size + 1, 0, none⟩ (.int .i64 3)).setCell ⟨w.heap.size + 1, 1, none⟩ (.string (s.extract k e1))).drew = w5 := ⟨_, rfl⟩
                    rw [he5] at hw5 ⊢
                    have HDN := Lib.hid hw5.done
                    clear he5 y0 y1 y2 yf0 yf1 r0 r1 r2 rf0 rf1 rf2
                    have y0 : w5.cell? ⟨w.heap.size + 1, 0, none⟩ = some (.int .i64 3) := hw5.cells.1
                    have y1 : w5.cell? ⟨w.heap.size + 1, 1, none⟩ = some (.string (s.extract k e1)) := hw5.cells.2.1
                    have y2 : w5.cell? ⟨w.heap.size + 1, 2, none⟩ = some (.int .i64 (k : Int)) := hw5.cells.2.2.1
                    have yf0 : w5.frozen? ⟨w.heap.size + 1, 0, none⟩ = false := hw5.cells.2.2.2.1
                    have yf1 : w5.frozen? ⟨w.heap.size + 1, 1, none⟩ = false := hw5.cells.2.2.2.2
                    have r0 : w5.cell? ⟨w.heap.size, 0, none⟩ = some (.int .i64 0) := hw5.res.1
                    have r1 : w5.cell? ⟨w.heap.size, 1, none⟩ = some (.string ⟨#[]⟩) := hw5.res.2.1
                    have r2 : w5.cell? ⟨w.heap.size, 2, none⟩ = some (.int .i64 0) := hw5.res.2.2.1
                    have rf0 : w5.frozen? ⟨w.heap.size, 0, none⟩ = false := hw5.res.2.2.2.1
                    have rf1 : w5.frozen? ⟨w.heap.size, 1, none⟩ = false := hw5.res.2.2.2.2.1
                    have rf2 : w5.frozen? ⟨w.heap.size, 2, none⟩ = false := hw5.res.2.2.2.2.2
                    clear hw5
                    have HPT : Hid (s.extract k e1 = ofL (pre l (s.data.toList.drop e1))) := Lib.hid (pre_text HL.out (by omega) (by omega))
                    go_wp2_with fail
                    refine bodyPost_ret (results14 _ _ w.heap.size _ _ _ rfl (HDN.out _ rfl).1 (HDN.out _ rfl).2.1 (HDN.out _ rfl).2.2.1) rfl ?_
                    refine ⟨(HDN.out _ rfl).2.2.2, ?_⟩
                    rw [HN.out]
                    exact ⟨_, _, _, _, rfl⟩
              · have h1' : ¬ (e1 : Int) + 1 < (s.size : Int) := by omega
                have HNR := Lib.hid (hnr.trans (num_stop false hh1 (.inr (.inr (by rw [hd_out s (e1 + 1) (by omega)]; exact digit0)))))
                clear hh1 hnr
                go_wp2_with fail
                by_cases h40 : e1 - k ≤ 40
                · have h40' : (e1 : Int) - (k : Int) ≤ 40 := by omega
                  have HN : Hid (one l = some (3, pre l (s.data.toList.drop e1), s.data.toList.drop e1)) := Lib.hid (by rw [HNUM.out, HNR.out, numOne, if_pos (by rw [HL.out]; simp; omega)])
                  have hke : (k : Int) ≤ (e1 : Int) := by omega
                  have hes : (e1 : Int) ≤ (s.size : Int) := by omega
                  go_region
                  have hw5 := ((HT.out.set0 (.int .i64 3)).set1 (.string (s.extract k e1))).drew
                  obtain ⟨w5, he5⟩ : ∃ w5, ((w1.setCell ⟨w.heap.size + 1, 0, none⟩ (.int .i64 3)).setCell ⟨w.heap.size + 1, 1, none⟩ (.string (s.extract k e1))).drew = w5 := ⟨_, rfl⟩
                  rw [he5] at hw5 ⊢
                  have HDN := Lib.hid hw5.done
                  clear he5 y0 y1 y2 yf0 yf1 r0 r1 r2 rf0 rf1 rf2
                  have y0 : w5.cell? ⟨w.heap.size + 1, 0, none⟩ = some (.int .i64 3) := hw5.cells.1
                  have y1 : w5.cell? ⟨w.heap.size + 1, 1, none⟩ = some (.string (s.extract k e1)) := hw5.cells.2.1
                  have y2 : w5.cell? ⟨w.heap.size + 1, 2, none⟩ = some (.int .i64 (k : Int)) := hw5.cells.2.2.1
                  have yf0 : w5.frozen? ⟨w.heap.size + 1, 0, none⟩ = false := hw5.cells.2.2.2.1
                  have yf1 : w5.frozen? ⟨w.heap.size + 1, 1, none⟩ = false := hw5.cells.2.2.2.2
                  have r0 : w5.cell? ⟨w.heap.size, 0, none⟩ = some (.int .i64 0) := hw5.res.1
                  have r1 : w5.cell? ⟨w.heap.size, 1, none⟩ = some (.string ⟨#[]⟩) := hw5.res.2.1
                  have r2 : w5.cell? ⟨w.heap.size, 2, none⟩ = some (.int .i64 0) := hw5.res.2.2.1
                  have rf0 : w5.frozen? ⟨w.heap.size, 0, none⟩ = false := hw5.res.2.2.2.1
                  have rf1 : w5.frozen? ⟨w.heap.size, 1, none⟩ = false := hw5.res.2.2.2.2.1
                  have rf2 : w5.frozen? ⟨w.heap.size, 2, none⟩ = false := hw5.res.2.2.2.2.2
                  clear hw5
                  have HPT : Hid (s.extract k e1 = ofL (pre l (s.data.toList.drop e1))) := Lib.hid (pre_text HL.out (by omega) (by omega))
                  go_wp2_with fail
                  refine bodyPost_ret (results14 _ _ w.heap.size _ _ _ rfl (HDN.out _ rfl).1 (HDN.out _ rfl).2.1 (HDN.out _ rfl).2.2.1) rfl ?_
                  refine ⟨(HDN.out _ rfl).2.2.2, ?_⟩
                  rw [HN.out]
                  rw [HPT.out]
                  simp only [List.length_drop]
                  rw [show s.size - (s.data.toList.length - e1) = e1 by simp; omega]
                  rfl
                · have h40' : ¬ (e1 : Int) - (k : Int) ≤ 40 := by omega
                  have HN : Hid (one l = none) := Lib.hid (by rw [HNUM.out, HNR.out, numOne, if_neg (by rw [HL.out]; simp; omega)])
                  have hke : (k : Int) ≤ (e1 : Int) := by omega
                  have hes : (e1 : Int) ≤ (s.size : Int) := by omega
                  go_region
                  have hw5 := ((HT.out.set0 (.int .i64 3)).set1 (.string (s.extract k e1))).drew
                  obtain ⟨w5, he5⟩ : ∃ w5, ((w1.setCell ⟨w.heap.size + 1, 0, none⟩ (.int .i64 3)).setCell ⟨w.heap.size + 1, 1, none⟩ (.string (s.extract k e1))).drew = w5 := ⟨_, rfl⟩
                  rw [he5] at hw5 ⊢
                  have HDN := Lib.hid hw5.done
                  clear he5 y0 y1 y2 yf0 yf1 r0 r1 r2 rf0 rf1 rf2
                  have y0 : w5.cell? ⟨w.heap.size + 1, 0, none⟩ = some (.int .i64 3) := hw5.cells.1
                  have y1 : w5.cell? ⟨w.heap.size + 1, 1, none⟩ = some (.string (s.extract k e1)) := hw5.cells.2.1
                  have y2 : w5.cell? ⟨w.heap.size + 1, 2, none⟩ = some (.int .i64 (k : Int)) := hw5.cells.2.2.1
                  have yf0 : w5.frozen? ⟨w.heap.size + 1, 0, none⟩ = false := hw5.cells.2.2.2.1
                  have yf1 : w5.frozen? ⟨w.heap.size + 1, 1, none⟩ = false := hw5.cells.2.2.2.2
                  have r0 : w5.cell? ⟨w.heap.size, 0, none⟩ = some (.int .i64 0) := hw5.res.1
                  have r1 : w5.cell? ⟨w.heap.size, 1, none⟩ = some (.string ⟨#[]⟩) := hw5.res.2.1
                  have r2 : w5.cell? ⟨w.heap.size, 2, none⟩ = some (.int .i64 0) := hw5.res.2.2.1
                  have rf0 : w5.frozen? ⟨w.heap.size, 0, none⟩ = false := hw5.res.2.2.2.1
                  have rf1 : w5.frozen? ⟨w.heap.size, 1, none⟩ = false := hw5.res.2.2.2.2.1
                  have rf2 : w5.frozen? ⟨w.heap.size, 2, none⟩ = false := hw5.res.2.2.2.2.2
                  clear hw5
                  have HPT : Hid (s.extract k e1 = ofL (pre l (s.data.toList.drop e1))) := Lib.hid (pre_text HL.out (by omega) (by omega))
                  go_wp2_with fail
                  refine bodyPost_ret (results14 _ _ w.heap.size _ _ _ rfl (HDN.out _ rfl).1 (HDN.out _ rfl).2.1 (HDN.out _ rfl).2.2.1) rfl ?_
                  refine ⟨(HDN.out _ rfl).2.2.2, ?_⟩
                  rw [HN.out]
                  exact ⟨_, _, _, _, rfl⟩
            | false =>
              have HN := Lib.hid (show one l = none by rw [HONE.out, one1, if_neg (by simp [hlb]), if_neg (by simp [minus, hdb, hh, hm]), if_neg (by simp [hq]), if_neg (by simp [cmpB, h45]), if_neg (by simp [signB, h45])])
              have HMD := Lib.hid hm
              have HDN := Lib.hid HT.out.done
              have b60 : ((c.toNat : Int) == 60) = false := by simp; omega
              have b62 : ((c.toNat : Int) == 62) = false := by simp; omega
              have b33 : ((c.toNat : Int) == 33) = false := by simp; omega
              have b40 : ((c.toNat : Int) == 40) = false := by simp; omega
              have b41 : ((c.toNat : Int) == 41) = false := by simp; omega
              have b44 : ((c.toNat : Int) == 44) = false := by simp; omega
              have b42 : ((c.toNat : Int) == 42) = false := by simp; omega
              have b61 : ((c.toNat : Int) == 61) = false := by simp; omega
              clear hlb hq hdb h45 hh hm
              refine (rletter _ _).mono ?_
              rw [HLB.out]
              rintro e w3 ⟨rfl, rfl⟩
              go_wp2_with fail
              with_reducible refine (rdigit _ _).mono ?_
              rw [HDB.out]
              rintro e w3 ⟨rfl, rfl⟩
              go_wp2_with fail
              clear hdd
              with_reducible refine (rdigit _ _).mono ?_
              rw [HMD.out]
              rintro e w3 ⟨rfl, rfl⟩
              go_wp2_with fail
              refine bodyPost_ret (results14 _ _ w.heap.size _ _ _ rfl (HDN.out _ rfl).1 (HDN.out _ rfl).2.1 (HDN.out _ rfl).2.2.1) rfl ?_
              refine ⟨(HDN.out _ rfl).2.2.2, ?_⟩
              rw [HN.out]
              exact ⟨_, _, _, _, rfl⟩
          · have hk1' : ¬ (k : Int) + 1 < (s.size : Int) := by omega
            have HN := Lib.hid (show one l = none by rw [HONE.out, one1, if_neg (by simp [hlb]), if_neg (by rw [minus, hd_out s (k + 1) hk1, hdb, digit0]; simp), if_neg (by simp [hq]), if_neg (by simp [cmpB, h45]), if_neg (by simp [signB, h45])])
            have HDN := Lib.hid HT.out.done
            have b60 : ((c.toNat : Int) == 60) = false := by simp; omega
            have b62 : ((c.toNat : Int) == 62) = false := by simp; omega
            have b33 : ((c.toNat : Int) == 33) = false := by simp; omega
            have b40 : ((c.toNat : Int) == 40) = false := by simp; omega
            have b41 : ((c.toNat : Int) == 41) = false := by simp; omega
            have b44 : ((c.toNat : Int) == 44) = false := by simp; omega
            have b42 : ((c.toNat : Int) == 42) = false := by simp; omega
            have b61 : ((c.toNat : Int) == 61) = false := by simp; omega
            clear hlb hq hdb h45
            refine (rletter _ _).mono ?_
            rw [HLB.out]
            rintro e w3 ⟨rfl, rfl⟩
            go_wp2_with fail
            with_reducible refine (rdigit _ _).mono ?_
            rw [HDB.out]
            rintro e w3 ⟨rfl, rfl⟩
            go_wp2_with fail
            refine bodyPost_ret (results14 _ _ w.heap.size _ _ _ rfl (HDN.out _ rfl).1 (HDN.out _ rfl).2.1 (HDN.out _ rfl).2.2.1) rfl ?_
            refine ⟨(HDN.out _ rfl).2.2.2, ?_⟩
            rw [HN.out]
            exact ⟨_, _, _, _, rfl⟩
        · have hmn : minus c (s.data.toList.drop (k + 1)) = false := by simp [minus, h45]
          have HONE3 := Lib.hid (show one l = (if cmpB c && decide ((hd (s.data.toList.drop (k + 1))).toNat = 61) then some (5, pre l ((s.data.toList.drop (k + 1)).drop 1), (s.data.toList.drop (k + 1)).drop 1) else if signB c then some (5, [c], s.data.toList.drop (k + 1)) else none) by rw [HONE.out, one1, if_neg (by simp [hlb]), if_neg (by simp [hdb, hmn]), if_neg (by simp [hq]), ← HD1.out])
          have b45 : ((c.toNat : Int) == 45) = false := by simp; omega
          clear hlb hq hdb hmn h45
          by_cases h60 : c.toNat = 60
          · have b60 : ((c.toNat : Int) == 60) = true := by simp; omega
            by_cases hk1 : k + 1 < s.size
            · have hk1' : (k : Int) + 1 < (s.size : Int) := by omega
              have hk1'' : ¬ (s.size : Int) ≤ (k : Int) + 1 := by omega
              have hh := hd_in s (k + 1) hk1
              obtain ⟨d, hdd⟩ : ∃ d, s[k + 1] = d := ⟨_, rfl⟩
              rw [hdd] at hh
              by_cases h61 : d.toNat = 61
              · have b61 : ((d.toNat : Int) == 61) = true := by simp; omega
                have n61 : ((d.toNat : Int) != 61) = false := by simp; omega
                obtain ⟨en, hen⟩ : ∃ en, en = k + 2 := ⟨_, rfl⟩
                have HN := Lib.hid (show one l = some (5, pre l (s.data.toList.drop en), s.data.toList.drop en) by rw [HONE3.out, if_pos (by simp [cmpB, h60, hh, h61]), List.drop_drop, hen])
                have HEN : Hid ((k : Int) + 1 + 1 = (en : Int)) := Lib.hid (by omega)
                have hen2 : k ≤ en ∧ en ≤ s.size := by omega
                have hee : (k : Int) + 1 + 1 = (en : Int) := by omega
                clear hh h61 hen h60
                refine (rletter _ _).mono ?_
                rw [HLB.out]
                rintro e w3 ⟨rfl, rfl⟩
                go_wp2_with fail
                with_reducible refine (rdigit _ _).mono ?_
                rw [HDB.out]
                rintro e w3 ⟨rfl, rfl⟩
                go_wp2_with fail
                clear hdd
                have hke : (k : Int) ≤ (en : Int) := by omega
                have hes : (en : Int) ≤ (s.size : Int) := by omega
                go_region
                have hw5 := ((HT.out.set0 (.int .i64 5)).set1 (.string (s.extract k en))).drew
                obtain ⟨w5, he5⟩ : ∃ w5, ((w1.setCell ⟨w.heap.size + 1, 0, none⟩ (.int .i64 5)).setCell ⟨w.heap.size + 1, 1, none⟩ (.string (s.extract k en))).drew = w5 := ⟨_, rfl⟩
                rw [he5] at hw5 ⊢
                have HDN := Lib.hid hw5.done
                clear he5 y0 y1 y2 yf0 yf1 r0 r1 r2 rf0 rf1 rf2
                have y0 : w5.cell? ⟨w.heap.size + 1, 0, none⟩ = some (.int .i64 5) := hw5.cells.1
                have y1 : w5.cell? ⟨w.heap.size + 1, 1, none⟩ = some (.string (s.extract k en)) := hw5.cells.2.1
                have y2 : w5.cell? ⟨w.heap.size + 1, 2, none⟩ = some (.int .i64 (k : Int)) := hw5.cells.2.2.1
                have yf0 : w5.frozen? ⟨w.heap.size + 1, 0, none⟩ = false := hw5.cells.2.2.2.1
                have yf1 : w5.frozen? ⟨w.heap.size + 1, 1, none⟩ = false := hw5.cells.2.2.2.2
                have r0 : w5.cell? ⟨w.heap.size, 0, none⟩ = some (.int .i64 0) := hw5.res.1
                have r1 : w5.cell? ⟨w.heap.size, 1, none⟩ = some (.string ⟨#[]⟩) := hw5.res.2.1
                have r2 : w5.cell? ⟨w.heap.size, 2, none⟩ = some (.int .i64 0) := hw5.res.2.2.1
                have rf0 : w5.frozen? ⟨w.heap.size, 0, none⟩ = false := hw5.res.2.2.2.1
                have rf1 : w5.frozen? ⟨w.heap.size, 1, none⟩ = false := hw5.res.2.2.2.2.1
                have rf2 : w5.frozen? ⟨w.heap.size, 2, none⟩ = false := hw5.res.2.2.2.2.2
                clear hw5
                have HPT : Hid (s.extract k en = ofL (pre l (s.data.toList.drop en))) := Lib.hid (pre_text HL.out (by omega) (by omega))
                go_wp2_with fail
                refine bodyPost_ret (results14 _ _ w.heap.size _ _ _ rfl (HDN.out _ rfl).1 (HDN.out _ rfl).2.1 (HDN.out _ rfl).2.2.1) rfl ?_
                refine ⟨(HDN.out _ rfl).2.2.2, ?_⟩
                rw [HN.out]
                rw [HPT.out]
                simp only [List.length_drop]
                rw [show s.size - (s.data.toList.length - en) = en by simp; omega]
                rfl
              · have b61 : ((d.toNat : Int) == 61) = false := by simp; omega
                have n61 : ((d.toNat : Int) != 61) = true := by simp; omega
                obtain ⟨en, hen⟩ : ∃ en, en = k + 1 := ⟨_, rfl⟩
                have HN := Lib.hid (show one l = some (5, pre l (s.data.toList.drop en), s.data.toList.drop en) by rw [HONE3.out, if_neg (by simp [hh, h61]), if_pos (by simp [signB, h60]), hen, HD1.out, pre_one])
                have hen2 : k ≤ en ∧ en ≤ s.size := by omega
                have hee : (k : Int) + 1 = (en : Int) := by omega
                have hen3 : en < s.size := by omega
                have hen3' : (en : Int) < (s.size : Int) := by omega
                have hdd2 : s[en]'hen3 = d := by subst hen; exact hdd
                clear hen h60
                clear hh h61
                refine (rletter _ _).mono ?_
                rw [HLB.out]
                rintro e w3 ⟨rfl, rfl⟩
                go_wp2_with fail
                with_reducible refine (rdigit _ _).mono ?_
                rw [HDB.out]
                rintro e w3 ⟨rfl, rfl⟩
                go_wp2_with fail
                clear hdd
                have hke : (k : Int) ≤ (en : Int) := by omega
                have hes : (en : Int) ≤ (s.size : Int) := by omega
                go_region
                have hw5 := ((HT.out.set0 (.int .i64 5)).set1 (.string (s.extract k en))).drew
                obtain ⟨w5, he5⟩ : ∃ w5, ((w1.setCell ⟨w.heap.size + 1, 0, none⟩ (.int .i64 5)).setCell ⟨w.heap.size + 1, 1, none⟩ (.string (s.extract k en))).drew = w5 := ⟨_, rfl⟩
                rw [he5] at hw5 ⊢
                have HDN := Lib.hid hw5.done
                clear he5 y0 y1 y2 yf0 yf1 r0 r1 r2 rf0 rf1 rf2
                have y0 : w5.cell? ⟨w.heap.size + 1, 0, none⟩ = some (.int .i64 5) := hw5.cells.1
                have y1 : w5.cell? ⟨w.heap.size + 1, 1, none⟩ = some (.string (s.extract k en)) := hw5.cells.2.1
                have y2 : w5.cell? ⟨w.heap.size + 1, 2, none⟩ = some (.int .i64 (k : Int)) := hw5.cells.2.2.1
                have yf0 : w5.frozen? ⟨w.heap.size + 1, 0, none⟩ = false := hw5.cells.2.2.2.1
                have yf1 : w5.frozen? ⟨w.heap.size + 1, 1, none⟩ = false := hw5.cells.2.2.2.2
                have r0 : w5.cell? ⟨w.heap.size, 0, none⟩ = some (.int .i64 0) := hw5.res.1
                have r1 : w5.cell? ⟨w.heap.size, 1, none⟩ = some (.string ⟨#[]⟩) := hw5.res.2.1
                have r2 : w5.cell? ⟨w.heap.size, 2, none⟩ = some (.int .i64 0) := hw5.res.2.2.1
                have rf0 : w5.frozen? ⟨w.heap.size, 0, none⟩ = false := hw5.res.2.2.2.1
                have rf1 : w5.frozen? ⟨w.heap.size, 1, none⟩ = false := hw5.res.2.2.2.2.1
                have rf2 : w5.frozen? ⟨w.heap.size, 2, none⟩ = false := hw5.res.2.2.2.2.2
                clear hw5
                have HPT : Hid (s.extract k en = ofL (pre l (s.data.toList.drop en))) := Lib.hid (pre_text HL.out (by omega) (by omega))
                go_wp2_with fail
                refine bodyPost_ret (results14 _ _ w.heap.size _ _ _ rfl (HDN.out _ rfl).1 (HDN.out _ rfl).2.1 (HDN.out _ rfl).2.2.1) rfl ?_
                refine ⟨(HDN.out _ rfl).2.2.2, ?_⟩
                rw [HN.out]
                rw [HPT.out]
                simp only [List.length_drop]
                rw [show s.size - (s.data.toList.length - en) = en by simp; omega]
                rfl
            · have hk1' : ¬ (k : Int) + 1 < (s.size : Int) := by omega
              obtain ⟨en, hen⟩ : ∃ en, en = k + 1 := ⟨_, rfl⟩
              have HN := Lib.hid (show one l = some (5, pre l (s.data.toList.drop en), s.data.toList.drop en) by rw [HONE3.out, if_neg (by rw [hd_out s (k + 1) hk1]; simp), if_pos (by simp [signB, h60]), hen, HD1.out, pre_one])
              have hen2 : k ≤ en ∧ en ≤ s.size := by omega
              have hee : (k : Int) + 1 = (en : Int) := by omega
              have hen3' : ¬ (en : Int) < (s.size : Int) := by omega
              clear hen h60
              refine (rletter _ _).mono ?_
              rw [HLB.out]
              rintro e w3 ⟨rfl, rfl⟩
              go_wp2_with fail
              with_reducible refine (rdigit _ _).mono ?_
              rw [HDB.out]
              rintro e w3 ⟨rfl, rfl⟩
              go_wp2_with fail
              have hke : (k : Int) ≤ (en : Int) := by omega
              have hes : (en : Int) ≤ (s.size : Int) := by omega
              go_region
              have hw5 := ((HT.out.set0 (.int .i64 5)).set1 (.string (s.extract k en))).drew
              obtain ⟨w5, he5⟩ : ∃ w5, ((w1.setCell ⟨w.heap.size + 1, 0, none⟩ (.int .i64 5)).setCell ⟨w.heap.size + 1, 1, none⟩ (.string (s.extract k en))).drew = w5 := ⟨_, rfl⟩
              rw [he5] at hw5 ⊢
              have HDN := Lib.hid hw5.done
              clear he5 y0 y1 y2 yf0 yf1 r0 r1 r2 rf0 rf1 rf2
              have y0 : w5.cell? ⟨w.heap.size + 1, 0, none⟩ = some (.int .i64 5) := hw5.cells.1
              have y1 : w5.cell? ⟨w.heap.size + 1, 1, none⟩ = some (.string (s.extract k en)) := hw5.cells.2.1
              have y2 : w5.cell? ⟨w.heap.size + 1, 2, none⟩ = some (.int .i64 (k : Int)) := hw5.cells.2.2.1
              have yf0 : w5.frozen? ⟨w.heap.size + 1, 0, none⟩ = false := hw5.cells.2.2.2.1
              have yf1 : w5.frozen? ⟨w.heap.size + 1, 1, none⟩ = false := hw5.cells.2.2.2.2
              have r0 : w5.cell? ⟨w.heap.size, 0, none⟩ = some (.int .i64 0) := hw5.res.1
              have r1 : w5.cell? ⟨w.heap.size, 1, none⟩ = some (.string ⟨#[]⟩) := hw5.res.2.1
              have r2 : w5.cell? ⟨w.heap.size, 2, none⟩ = some (.int .i64 0) := hw5.res.2.2.1
              have rf0 : w5.frozen? ⟨w.heap.size, 0, none⟩ = false := hw5.res.2.2.2.1
              have rf1 : w5.frozen? ⟨w.heap.size, 1, none⟩ = false := hw5.res.2.2.2.2.1
              have rf2 : w5.frozen? ⟨w.heap.size, 2, none⟩ = false := hw5.res.2.2.2.2.2
              clear hw5
              have HPT : Hid (s.extract k en = ofL (pre l (s.data.toList.drop en))) := Lib.hid (pre_text HL.out (by omega) (by omega))
              go_wp2_with fail
              refine bodyPost_ret (results14 _ _ w.heap.size _ _ _ rfl (HDN.out _ rfl).1 (HDN.out _ rfl).2.1 (HDN.out _ rfl).2.2.1) rfl ?_
              refine ⟨(HDN.out _ rfl).2.2.2, ?_⟩
              rw [HN.out]
              rw [HPT.out]
              simp only [List.length_drop]
              rw [show s.size - (s.data.toList.length - en) = en by simp; omega]
              rfl
          by_cases h62 : c.toNat = 62
          · have b60 : ((c.toNat : Int) == 60) = false := by simp; omega
            have b62 : ((c.toNat : Int) == 62) = true := by simp; omega
            by_cases hk1 : k + 1 < s.size
            · have hk1' : (k : Int) + 1 < (s.size : Int) := by omega
              have hk1'' : ¬ (s.size : Int) ≤ (k : Int) + 1 := by omega
              have hh := hd_in s (k + 1) hk1
              obtain ⟨d, hdd⟩ : ∃ d, s[k + 1] = d := ⟨_, rfl⟩
              rw [hdd] at hh
              by_cases h61 : d.toNat = 61
              · have b61 : ((d.toNat : Int) == 61) = true := by simp; omega
                have n61 : ((d.toNat : Int) != 61) = false := by simp; omega
                obtain ⟨en, hen⟩ : ∃ en, en = k + 2 := ⟨_, rfl⟩
                have HN := Lib.hid (show one l = some (5, pre l (s.data.toList.drop en), s.data.toList.drop en) by rw [HONE3.out, if_pos (by simp [cmpB, h62, hh, h61]), List.drop_drop, hen])
                have HEN : Hid ((k : Int) + 1 + 1 = (en : Int)) := Lib.hid (by omega)
                have hen2 : k ≤ en ∧ en ≤ s.size := by omega
                have hee : (k : Int) + 1 + 1 = (en : Int) := by omega
                clear hh h61 hen h62
                refine (rletter _ _).mono ?_
                rw [HLB.out]
                rintro e w3 ⟨rfl, rfl⟩
                go_wp2_with fail
                with_reducible refine (rdigit _ _).mono ?_
                rw [HDB.out]
                rintro e w3 ⟨rfl, rfl⟩
                go_wp2_with fail
                clear hdd
                have hke : (k : Int) ≤ (en : Int) := by omega
                have hes : (en : Int) ≤ (s.size : Int) := by omega
                go_region
                have hw5 := ((HT.out.set0 (.int .i64 5)).set1 (.string (s.extract k en))).drew
                obtain ⟨w5, he5⟩ : ∃ w5, ((w1.setCell ⟨w.heap.size + 1, 0, none⟩ (.int .i64 5)).setCell ⟨w.heap.size + 1, 1, none⟩ (.string (s.extract k en))).drew = w5 := ⟨_, rfl⟩
                rw [he5] at hw5 ⊢
                have HDN := Lib.hid hw5.done
                clear he5 y0 y1 y2 yf0 yf1 r0 r1 r2 rf0 rf1 rf2
                have y0 : w5.cell? ⟨w.heap.size + 1, 0, none⟩ = some (.int .i64 5) := hw5.cells.1
                have y1 : w5.cell? ⟨w.heap.size + 1, 1, none⟩ = some (.string (s.extract k en)) := hw5.cells.2.1
                have y2 : w5.cell? ⟨w.heap.size + 1, 2, none⟩ = some (.int .i64 (k : Int)) := hw5.cells.2.2.1
                have yf0 : w5.frozen? ⟨w.heap.size + 1, 0, none⟩ = false := hw5.cells.2.2.2.1
                have yf1 : w5.frozen? ⟨w.heap.size + 1, 1, none⟩ = false := hw5.cells.2.2.2.2
                have r0 : w5.cell? ⟨w.heap.size, 0, none⟩ = some (.int .i64 0) := hw5.res.1
                have r1 : w5.cell? ⟨w.heap.size, 1, none⟩ = some (.string ⟨#[]⟩) := hw5.res.2.1
                have r2 : w5.cell? ⟨w.heap.size, 2, none⟩ = some (.int .i64 0) := hw5.res.2.2.1
                have rf0 : w5.frozen? ⟨w.heap.size, 0, none⟩ = false := hw5.res.2.2.2.1
                have rf1 : w5.frozen? ⟨w.heap.size, 1, none⟩ = false := hw5.res.2.2.2.2.1
                have rf2 : w5.frozen? ⟨w.heap.size, 2, none⟩ = false := hw5.res.2.2.2.2.2
                clear hw5
                have HPT : Hid (s.extract k en = ofL (pre l (s.data.toList.drop en))) := Lib.hid (pre_text HL.out (by omega) (by omega))
                go_wp2_with fail
                refine bodyPost_ret (results14 _ _ w.heap.size _ _ _ rfl (HDN.out _ rfl).1 (HDN.out _ rfl).2.1 (HDN.out _ rfl).2.2.1) rfl ?_
                refine ⟨(HDN.out _ rfl).2.2.2, ?_⟩
                rw [HN.out]
                rw [HPT.out]
                simp only [List.length_drop]
                rw [show s.size - (s.data.toList.length - en) = en by simp; omega]
                rfl
              · have b61 : ((d.toNat : Int) == 61) = false := by simp; omega
                have n61 : ((d.toNat : Int) != 61) = true := by simp; omega
                obtain ⟨en, hen⟩ : ∃ en, en = k + 1 := ⟨_, rfl⟩
                have HN := Lib.hid (show one l = some (5, pre l (s.data.toList.drop en), s.data.toList.drop en) by rw [HONE3.out, if_neg (by simp [hh, h61]), if_pos (by simp [signB, h62]), hen, HD1.out, pre_one])
                have hen2 : k ≤ en ∧ en ≤ s.size := by omega
                have hee : (k : Int) + 1 = (en : Int) := by omega
                have hen3 : en < s.size := by omega
                have hen3' : (en : Int) < (s.size : Int) := by omega
                have hdd2 : s[en]'hen3 = d := by subst hen; exact hdd
                clear hen h62
                clear hh h61
                refine (rletter _ _).mono ?_
                rw [HLB.out]
                rintro e w3 ⟨rfl, rfl⟩
                go_wp2_with fail
                with_reducible refine (rdigit _ _).mono ?_
                rw [HDB.out]
                rintro e w3 ⟨rfl, rfl⟩
                go_wp2_with fail
                clear hdd
                have hke : (k : Int) ≤ (en : Int) := by omega
                have hes : (en : Int) ≤ (s.size : Int) := by omega
                go_region
                have hw5 := ((HT.out.set0 (.int .i64 5)).set1 (.string (s.extract k en))).drew
                obtain ⟨w5, he5⟩ : ∃ w5, ((w1.setCell ⟨w.heap.size + 1, 0, none⟩ (.int .i64 5)).setCell ⟨w.heap.size + 1, 1, none⟩ (.string (s.extract k en))).drew = w5 := ⟨_, rfl⟩
                rw [he5] at hw5 ⊢
                have HDN := Lib.hid hw5.done
                clear he5 y0 y1 y2 yf0 yf1 r0 r1 r2 rf0 rf1 rf2
                have y0 : w5.cell? ⟨w.heap.size + 1, 0, none⟩ = some (.int .i64 5) := hw5.cells.1
                have y1 : w5.cell? ⟨w.heap.size + 1, 1, none⟩ = some (.string (s.extract k en)) := hw5.cells.2.1
                have y2 : w5.cell? ⟨w.heap.size + 1, 2, none⟩ = some (.int .i64 (k : Int)) := hw5.cells.2.2.1
                have yf0 : w5.frozen? ⟨w.heap.size + 1, 0, none⟩ = false := hw5.cells.2.2.2.1
                have yf1 : w5.frozen? ⟨w.heap.size + 1, 1, none⟩ = false := hw5.cells.2.2.2.2
                have r0 : w5.cell? ⟨w.heap.size, 0, none⟩ = some (.int .i64 0) := hw5.res.1
                have r1 : w5.cell? ⟨w.heap.size, 1, none⟩ = some (.string ⟨#[]⟩) := hw5.res.2.1
                have r2 : w5.cell? ⟨w.heap.size, 2, none⟩ = some (.int .i64 0) := hw5.res.2.2.1
                have rf0 : w5.frozen? ⟨w.heap.size, 0, none⟩ = false := hw5.res.2.2.2.1
                have rf1 : w5.frozen? ⟨w.heap.size, 1, none⟩ = false := hw5.res.2.2.2.2.1
                have rf2 : w5.frozen? ⟨w.heap.size, 2, none⟩ = false := hw5.res.2.2.2.2.2
                clear hw5
                have HPT : Hid (s.extract k en = ofL (pre l (s.data.toList.drop en))) := Lib.hid (pre_text HL.out (by omega) (by omega))
                go_wp2_with fail
                refine bodyPost_ret (results14 _ _ w.heap.size _ _ _ rfl (HDN.out _ rfl).1 (HDN.out _ rfl).2.1 (HDN.out _ rfl).2.2.1) rfl ?_
                refine ⟨(HDN.out _ rfl).2.2.2, ?_⟩
                rw [HN.out]
                rw [HPT.out]
                simp only [List.length_drop]
                rw [show s.size - (s.data.toList.length - en) = en by simp; omega]
                rfl
            · have hk1' : ¬ (k : Int) + 1 < (s.size : Int) := by omega
              obtain ⟨en, hen⟩ : ∃ en, en = k + 1 := ⟨_, rfl⟩
              have HN := Lib.hid (show one l = some (5, pre l (s.data.toList.drop en), s.data.toList.drop en) by rw [HONE3.out, if_neg (by rw [hd_out s (k + 1) hk1]; simp), if_pos (by simp [signB, h62]), hen, HD1.out, pre_one])
              have hen2 : k ≤ en ∧ en ≤ s.size := by omega
              have hee : (k : Int) + 1 = (en : Int) := by omega
              have hen3' : ¬ (en : Int) < (s.size : Int) := by omega
              clear hen h62
              refine (rletter _ _).mono ?_
              rw [HLB.out]
              rintro e w3 ⟨rfl, rfl⟩
              go_wp2_with fail
              with_reducible refine (rdigit _ _).mono ?_
              rw [HDB.out]
              rintro e w3 ⟨rfl, rfl⟩
              go_wp2_with fail
              have hke : (k : Int) ≤ (en : Int) := by omega
              have hes : (en : Int) ≤ (s.size : Int) := by omega
              go_region
              have hw5 := ((HT.out.set0 (.int .i64 5)).set1 (.string (s.extract k en))).drew
              obtain ⟨w5, he5⟩ : ∃ w5, ((w1.setCell ⟨w.heap.size + 1, 0, none⟩ (.int .i64 5)).setCell ⟨w.heap.size + 1, 1, none⟩ (.string (s.extract k en))).drew = w5 := ⟨_, rfl⟩
              rw [he5] at hw5 ⊢
              have HDN := Lib.hid hw5.done
              clear he5 y0 y1 y2 yf0 yf1 r0 r1 r2 rf0 rf1 rf2
              have y0 : w5.cell? ⟨w.heap.size + 1, 0, none⟩ = some (.int .i64 5) := hw5.cells.1
              have y1 : w5.cell? ⟨w.heap.size + 1, 1, none⟩ = some (.string (s.extract k en)) := hw5.cells.2.1
              have y2 : w5.cell? ⟨w.heap.size + 1, 2, none⟩ = some (.int .i64 (k : Int)) := hw5.cells.2.2.1
              have yf0 : w5.frozen? ⟨w.heap.size + 1, 0, none⟩ = false := hw5.cells.2.2.2.1
              have yf1 : w5.frozen? ⟨w.heap.size + 1, 1, none⟩ = false := hw5.cells.2.2.2.2
              have r0 : w5.cell? ⟨w.heap.size, 0, none⟩ = some (.int .i64 0) := hw5.res.1
              have r1 : w5.cell? ⟨w.heap.size, 1, none⟩ = some (.string ⟨#[]⟩) := hw5.res.2.1
              have r2 : w5.cell? ⟨w.heap.size, 2, none⟩ = some (.int .i64 0) := hw5.res.2.2.1
              have rf0 : w5.frozen? ⟨w.heap.size, 0, none⟩ = false := hw5.res.2.2.2.1
              have rf1 : w5.frozen? ⟨w.heap.size, 1, none⟩ = false := hw5.res.2.2.2.2.1
              have rf2 : w5.frozen? ⟨w.heap.size, 2, none⟩ = false := hw5.res.2.2.2.2.2
              clear hw5
              have HPT : Hid (s.extract k en = ofL (pre l (s.data.toList.drop en))) := Lib.hid (pre_text HL.out (by omega) (by omega))
              go_wp2_with fail
              refine bodyPost_ret (results14 _ _ w.heap.size _ _ _ rfl (HDN.out _ rfl).1 (HDN.out _ rfl).2.1 (HDN.out _ rfl).2.2.1) rfl ?_
              refine ⟨(HDN.out _ rfl).2.2.2, ?_⟩
              rw [HN.out]
              rw [HPT.out]
              simp only [List.length_drop]
              rw [show s.size - (s.data.toList.length - en) = en by simp; omega]
              rfl
          by_cases h33 : c.toNat = 33
          · have b60 : ((c.toNat : Int) == 60) = false := by simp; omega
            have b62 : ((c.toNat : Int) == 62) = false := by simp; omega
            have b33 : ((c.toNat : Int) == 33) = true := by simp; omega
            by_cases hk1 : k + 1 < s.size
            · have hk1' : (k : Int) + 1 < (s.size : Int) := by omega
              have hk1'' : ¬ (s.size : Int) ≤ (k : Int) + 1 := by omega
              have hh := hd_in s (k + 1) hk1
              obtain ⟨d, hdd⟩ : ∃ d, s[k + 1] = d := ⟨_, rfl⟩
              rw [hdd] at hh
              by_cases h61 : d.toNat = 61
              · have b61 : ((d.toNat : Int) == 61) = true := by simp; omega
                have n61 : ((d.toNat : Int) != 61) = false := by simp; omega
                obtain ⟨en, hen⟩ : ∃ en, en = k + 2 := ⟨_, rfl⟩
                have HN := Lib.hid (show one l = some (5, pre l (s.data.toList.drop en), s.data.toList.drop en) by rw [HONE3.out, if_pos (by simp [cmpB, h33, hh, h61]), List.drop_drop, hen])
                have HEN : Hid ((k : Int) + 1 + 1 = (en : Int)) := Lib.hid (by omega)
                have hen2 : k ≤ en ∧ en ≤ s.size := by omega
                have hee : (k : Int) + 1 + 1 = (en : Int) := by omega
                clear hh h61 hen h33
                refine (rletter _ _).mono ?_
                rw [HLB.out]
                rintro e w3 ⟨rfl, rfl⟩
                go_wp2_with fail
                with_reducible refine (rdigit _ _).mono ?_
                rw [HDB.out]
                rintro e w3 ⟨rfl, rfl⟩
                go_wp2_with fail
                clear hdd
                have hke : (k : Int) ≤ (en : Int) := by omega
                have hes : (en : Int) ≤ (s.size : Int) := by omega
                go_region
                have hw5 := ((HT.out.set0 (.int .i64 5)).set1 (.string (s.extract k en))).drew
                obtain ⟨w5, he5⟩ : ∃ w5, ((w1.setCell ⟨w.heap.size + 1, 0, none⟩ (.int .i64 5)).setCell ⟨w.heap.size + 1, 1, none⟩ (.string (s.extract k en))).drew = w5 := ⟨_, rfl⟩
                rw [he5] at hw5 ⊢
                have HDN := Lib.hid hw5.done
                clear he5 y0 y1 y2 yf0 yf1 r0 r1 r2 rf0 rf1 rf2
                have y0 : w5.cell? ⟨w.heap.size + 1, 0, none⟩ = some (.int .i64 5) := hw5.cells.1
                have y1 : w5.cell? ⟨w.heap.size + 1, 1, none⟩ = some (.string (s.extract k en)) := hw5.cells.2.1
                have y2 : w5.cell? ⟨w.heap.size + 1, 2, none⟩ = some (.int .i64 (k : Int)) := hw5.cells.2.2.1
                have yf0 : w5.frozen? ⟨w.heap.size + 1, 0, none⟩ = false := hw5.cells.2.2.2.1
                have yf1 : w5.frozen? ⟨w.heap.size + 1, 1, none⟩ = false := hw5.cells.2.2.2.2
                have r0 : w5.cell? ⟨w.heap.size, 0, none⟩ = some (.int .i64 0) := hw5.res.1
                have r1 : w5.cell? ⟨w.heap.size, 1, none⟩ = some (.string ⟨#[]⟩) := hw5.res.2.1
                have r2 : w5.cell? ⟨w.heap.size, 2, none⟩ = some (.int .i64 0) := hw5.res.2.2.1
                have rf0 : w5.frozen? ⟨w.heap.size, 0, none⟩ = false := hw5.res.2.2.2.1
                have rf1 : w5.frozen? ⟨w.heap.size, 1, none⟩ = false := hw5.res.2.2.2.2.1
                have rf2 : w5.frozen? ⟨w.heap.size, 2, none⟩ = false := hw5.res.2.2.2.2.2
                clear hw5
                have HPT : Hid (s.extract k en = ofL (pre l (s.data.toList.drop en))) := Lib.hid (pre_text HL.out (by omega) (by omega))
                go_wp2_with fail
                refine bodyPost_ret (results14 _ _ w.heap.size _ _ _ rfl (HDN.out _ rfl).1 (HDN.out _ rfl).2.1 (HDN.out _ rfl).2.2.1) rfl ?_
                refine ⟨(HDN.out _ rfl).2.2.2, ?_⟩
                rw [HN.out]
                rw [HPT.out]
                simp only [List.length_drop]
                rw [show s.size - (s.data.toList.length - en) = en by simp; omega]
                rfl
              · have b61 : ((d.toNat : Int) == 61) = false := by simp; omega
                have n61 : ((d.toNat : Int) != 61) = true := by simp; omega
                have HN := Lib.hid (show one l = none by rw [HONE3.out, if_neg (by simp [hh, h61]), if_neg (by simp [signB, h33])])
                have HDN := Lib.hid HT.out.done
                clear hh h61 h33
                refine (rletter _ _).mono ?_
                rw [HLB.out]
                rintro e w3 ⟨rfl, rfl⟩
                go_wp2_with fail
                with_reducible refine (rdigit _ _).mono ?_
                rw [HDB.out]
                rintro e w3 ⟨rfl, rfl⟩
                go_wp2_with fail
                clear hdd
                refine bodyPost_ret (results14 _ _ w.heap.size _ _ _ rfl (HDN.out _ rfl).1 (HDN.out _ rfl).2.1 (HDN.out _ rfl).2.2.1) rfl ?_
                refine ⟨(HDN.out _ rfl).2.2.2, ?_⟩
                rw [HN.out]
                exact ⟨_, _, _, _, rfl⟩
            · have hk1' : (s.size : Int) ≤ (k : Int) + 1 := by omega
              have HN := Lib.hid (show one l = none by rw [HONE3.out, if_neg (by rw [hd_out s (k + 1) hk1]; simp), if_neg (by simp [signB, h33])])
              have HDN := Lib.hid HT.out.done
              clear h33
              refine (rletter _ _).mono ?_
              rw [HLB.out]
              rintro e w3 ⟨rfl, rfl⟩
              go_wp2_with fail
              with_reducible refine (rdigit _ _).mono ?_
              rw [HDB.out]
              rintro e w3 ⟨rfl, rfl⟩
              go_wp2_with fail
              refine bodyPost_ret (results14 _ _ w.heap.size _ _ _ rfl (HDN.out _ rfl).1 (HDN.out _ rfl).2.1 (HDN.out _ rfl).2.2.1) rfl ?_
              refine ⟨(HDN.out _ rfl).2.2.2, ?_⟩
              rw [HN.out]
              exact ⟨_, _, _, _, rfl⟩
          have b60 : ((c.toNat : Int) == 60) = false := by simp; omega
          have b62 : ((c.toNat : Int) == 62) = false := by simp; omega
          have b33 : ((c.toNat : Int) == 33) = false := by simp; omega
          by_cases h40 : c.toNat = 40
          · have b40 : ((c.toNat : Int) == 40) = true := by simp; omega
            obtain ⟨en, hen⟩ : ∃ en, en = k + 1 := ⟨_, rfl⟩
            have HN := Lib.hid (show one l = some (5, pre l (s.data.toList.drop en), s.data.toList.drop en) by rw [HONE3.out, if_neg (by simp [cmpB, h40]), if_pos (by simp [signB, h40]), hen, HD1.out, pre_one])
            have hen2 : k ≤ en ∧ en ≤ s.size := by omega
            have hee : (k : Int) + 1 = (en : Int) := by omega
            clear hen h40
            refine (rletter _ _).mono ?_
            rw [HLB.out]
            rintro e w3 ⟨rfl, rfl⟩
            go_wp2_with fail
            with_reducible refine (rdigit _ _).mono ?_
            rw [HDB.out]
            rintro e w3 ⟨rfl, rfl⟩
            go_wp2_with fail
            have hke : (k : Int) ≤ (en : Int) := by omega
            have hes : (en : Int) ≤ (s.size : Int) := by omega
            go_region
            have hw5 := ((HT.out.set0 (.int .i64 5)).set1 (.string (s.extract k en))).drew
            obtain ⟨w5, he5⟩ : ∃ w5, ((w1.setCell ⟨w.heap.size + 1, 0, none⟩ (.int .i64 5)).setCell ⟨w.heap.size + 1, 1, none⟩ (.string (s.extract k en))).drew = w5 := ⟨_, rfl⟩
            rw [he5] at hw5 ⊢
            have HDN := Lib.hid hw5.done
            clear he5 y0 y1 y2 yf0 yf1 r0 r1 r2 rf0 rf1 rf2
            have y0 : w5.cell? ⟨w.heap.size + 1, 0, none⟩ = some (.int .i64 5) := hw5.cells.1
            have y1 : w5.cell? ⟨w.heap.size + 1, 1, none⟩ = some (.string (s.extract k en)) := hw5.cells.2.1
            have y2 : w5.cell? ⟨w.heap.size + 1, 2, none⟩ = some (.int .i64 (k : Int)) := hw5.cells.2.2.1
            have yf0 : w5.frozen? ⟨w.heap.size + 1, 0, none⟩ = false := hw5.cells.2.2.2.1
            have yf1 : w5.frozen? ⟨w.heap.size + 1, 1, none⟩ = false := hw5.cells.2.2.2.2
            have r0 : w5.cell? ⟨w.heap.size, 0, none⟩ = some (.int .i64 0) := hw5.res.1
            have r1 : w5.cell? ⟨w.heap.size, 1, none⟩ = some (.string ⟨#[]⟩) := hw5.res.2.1
            have r2 : w5.cell? ⟨w.heap.size, 2, none⟩ = some (.int .i64 0) := hw5.res.2.2.1
            have rf0 : w5.frozen? ⟨w.heap.size, 0, none⟩ = false := hw5.res.2.2.2.1
            have rf1 : w5.frozen? ⟨w.heap.size, 1, none⟩ = false := hw5.res.2.2.2.2.1
            have rf2 : w5.frozen? ⟨w.heap.size, 2, none⟩ = false := hw5.res.2.2.2.2.2
            clear hw5
            have HPT : Hid (s.extract k en = ofL (pre l (s.data.toList.drop en))) := Lib.hid (pre_text HL.out (by omega) (by omega))
            go_wp2_with fail
            refine bodyPost_ret (results14 _ _ w.heap.size _ _ _ rfl (HDN.out _ rfl).1 (HDN.out _ rfl).2.1 (HDN.out _ rfl).2.2.1) rfl ?_
            refine ⟨(HDN.out _ rfl).2.2.2, ?_⟩
            rw [HN.out]
            rw [HPT.out]
            simp only [List.length_drop]
            rw [show s.size - (s.data.toList.length - en) = en by simp; omega]
            rfl
          by_cases h41 : c.toNat = 41
          · have b40 : ((c.toNat : Int) == 40) = false := by simp; omega
            have b41 : ((c.toNat : Int) == 41) = true := by simp; omega
            obtain ⟨en, hen⟩ : ∃ en, en = k + 1 := ⟨_, rfl⟩
            have HN := Lib.hid (show one l = some (5, pre l (s.data.toList.drop en), s.data.toList.drop en) by rw [HONE3.out, if_neg (by simp [cmpB, h41]), if_pos (by simp [signB, h41]), hen, HD1.out, pre_one])
            have hen2 : k ≤ en ∧ en ≤ s.size := by omega
            have hee : (k : Int) + 1 = (en : Int) := by omega
            clear hen h41
            refine (rletter _ _).mono ?_
            rw [HLB.out]
            rintro e w3 ⟨rfl, rfl⟩
            go_wp2_with fail
            with_reducible refine (rdigit _ _).mono ?_
            rw [HDB.out]
            rintro e w3 ⟨rfl, rfl⟩
            go_wp2_with fail
            have hke : (k : Int) ≤ (en : Int) := by omega
            have hes : (en : Int) ≤ (s.size : Int) := by omega
            go_region
            have hw5 := ((HT.out.set0 (.int .i64 5)).set1 (.string (s.extract k en))).drew
            obtain ⟨w5, he5⟩ : ∃ w5, ((w1.setCell ⟨w.heap.size + 1, 0, none⟩ (.int .i64 5)).setCell ⟨w.heap.size + 1, 1, none⟩ (.string (s.extract k en))).drew = w5 := ⟨_, rfl⟩
            rw [he5] at hw5 ⊢
            have HDN := Lib.hid hw5.done
            clear he5 y0 y1 y2 yf0 yf1 r0 r1 r2 rf0 rf1 rf2
            have y0 : w5.cell? ⟨w.heap.size + 1, 0, none⟩ = some (.int .i64 5) := hw5.cells.1
            have y1 : w5.cell? ⟨w.heap.size + 1, 1, none⟩ = some (.string (s.extract k en)) := hw5.cells.2.1
            have y2 : w5.cell? ⟨w.heap.size + 1, 2, none⟩ = some (.int .i64 (k : Int)) := hw5.cells.2.2.1
            have yf0 : w5.frozen? ⟨w.heap.size + 1, 0, none⟩ = false := hw5.cells.2.2.2.1
            have yf1 : w5.frozen? ⟨w.heap.size + 1, 1, none⟩ = false := hw5.cells.2.2.2.2
            have r0 : w5.cell? ⟨w.heap.size, 0, none⟩ = some (.int .i64 0) := hw5.res.1
            have r1 : w5.cell? ⟨w.heap.size, 1, none⟩ = some (.string ⟨#[]⟩) := hw5.res.2.1
            have r2 : w5.cell? ⟨w.heap.size, 2, none⟩ = some (.int .i64 0) := hw5.res.2.2.1
            have rf0 : w5.frozen? ⟨w.heap.size, 0, none⟩ = false := hw5.res.2.2.2.1
            have rf1 : w5.frozen? ⟨w.heap.size, 1, none⟩ = false := hw5.res.2.2.2.2.1
            have rf2 : w5.frozen? ⟨w.heap.size, 2, none⟩ = false := hw5.res.2.2.2.2.2
            clear hw5
            have HPT : Hid (s.extract k en = ofL (pre l (s.data.toList.drop en))) := Lib.hid (pre_text HL.out (by omega) (by omega))
            go_wp2_with fail
            refine bodyPost_ret (results14 _ _ w.heap.size _ _ _ rfl (HDN.out _ rfl).1 (HDN.out _ rfl).2.1 (HDN.out _ rfl).2.2.1) rfl ?_
            refine ⟨(HDN.out _ rfl).2.2.2, ?_⟩
            rw [HN.out]
            rw [HPT.out]
            simp only [List.length_drop]
            rw [show s.size - (s.data.toList.length - en) = en by simp; omega]
            rfl
          by_cases h44 : c.toNat = 44
          · have b40 : ((c.toNat : Int) == 40) = false := by simp; omega
            have b41 : ((c.toNat : Int) == 41) = false := by simp; omega
            have b44 : ((c.toNat : Int) == 44) = true := by simp; omega
            obtain ⟨en, hen⟩ : ∃ en, en = k + 1 := ⟨_, rfl⟩
            have HN := Lib.hid (show one l = some (5, pre l (s.data.toList.drop en), s.data.toList.drop en) by rw [HONE3.out, if_neg (by simp [cmpB, h44]), if_pos (by simp [signB, h44]), hen, HD1.out, pre_one])
            have hen2 : k ≤ en ∧ en ≤ s.size := by omega
            have hee : (k : Int) + 1 = (en : Int) := by omega
            clear hen h44
            refine (rletter _ _).mono ?_
            rw [HLB.out]
            rintro e w3 ⟨rfl, rfl⟩
            go_wp2_with fail
            with_reducible refine (rdigit _ _).mono ?_
            rw [HDB.out]
            rintro e w3 ⟨rfl, rfl⟩
            go_wp2_with fail
            have hke : (k : Int) ≤ (en : Int) := by omega
            have hes : (en : Int) ≤ (s.size : Int) := by omega
            go_region
            have hw5 := ((HT.out.set0 (.int .i64 5)).set1 (.string (s.extract k en))).drew
            obtain ⟨w5, he5⟩ : ∃ w5, ((w1.setCell ⟨w.heap.size + 1, 0, none⟩ (.int .i64 5)).setCell ⟨w.heap.size + 1, 1, none⟩ (.string (s.extract k en))).drew = w5 := ⟨_, rfl⟩
            rw [he5] at hw5 ⊢
            have HDN := Lib.hid hw5.done
            clear he5 y0 y1 y2 yf0 yf1 r0 r1 r2 rf0 rf1 rf2
            have y0 : w5.cell? ⟨w.heap.size + 1, 0, none⟩ = some (.int .i64 5) := hw5.cells.1
            have y1 : w5.cell? ⟨w.heap.size + 1, 1, none⟩ = some (.string (s.extract k en)) := hw5.cells.2.1
            have y2 : w5.cell? ⟨w.heap.size + 1, 2, none⟩ = some (.int .i64 (k : Int)) := hw5.cells.2.2.1
            have yf0 : w5.frozen? ⟨w.heap.size + 1, 0, none⟩ = false := hw5.cells.2.2.2.1
            have yf1 : w5.frozen? ⟨w.heap.size + 1, 1, none⟩ = false := hw5.cells.2.2.2.2
            have r0 : w5.cell? ⟨w.heap.size, 0, none⟩ = some (.int .i64 0) := hw5.res.1
            have r1 : w5.cell? ⟨w.heap.size, 1, none⟩ = some (.string ⟨#[]⟩) := hw5.res.2.1
            have r2 : w5.cell? ⟨w.heap.size, 2, none⟩ = some (.int .i64 0) := hw5.res.2.2.1
            have rf0 : w5.frozen? ⟨w.heap.size, 0, none⟩ = false := hw5.res.2.2.2.1
            have rf1 : w5.frozen? ⟨w.heap.size, 1, none⟩ = false := hw5.res.2.2.2.2.1
            have rf2 : w5.frozen? ⟨w.heap.size, 2, none⟩ = false := hw5.res.2.2.2.2.2
            clear hw5
            have HPT : Hid (s.extract k en = ofL (pre l (s.data.toList.drop en))) := Lib.hid (pre_text HL.out (by omega) (by omega))
            go_wp2_with fail
            refine bodyPost_ret (results14 _ _ w.heap.size _ _ _ rfl (HDN.out _ rfl).1 (HDN.out _ rfl).2.1 (HDN.out _ rfl).2.2.1) rfl ?_
            refine ⟨(HDN.out _ rfl).2.2.2, ?_⟩
            rw [HN.out]
            rw [HPT.out]
            simp only [List.length_drop]
            rw [show s.size - (s.data.toList.length - en) = en by simp; omega]
            rfl
          by_cases h42 : c.toNat = 42
          · have b40 : ((c.toNat : Int) == 40) = false := by simp; omega
            have b41 : ((c.toNat : Int) == 41) = false := by simp; omega
            have b44 : ((c.toNat : Int) == 44) = false := by simp; omega
            have b42 : ((c.toNat : Int) == 42) = true := by simp; omega
            obtain ⟨en, hen⟩ : ∃ en, en = k + 1 := ⟨_, rfl⟩
            have HN := Lib.hid (show one l = some (5, pre l (s.data.toList.drop en), s.data.toList.drop en) by rw [HONE3.out, if_neg (by simp [cmpB, h42]), if_pos (by simp [signB, h42]), hen, HD1.out, pre_one])
            have hen2 : k ≤ en ∧ en ≤ s.size := by omega
            have hee : (k : Int) + 1 = (en : Int) := by omega
            clear hen h42
            refine (rletter _ _).mono ?_
            rw [HLB.out]
            rintro e w3 ⟨rfl, rfl⟩
            go_wp2_with fail
            with_reducible refine (rdigit _ _).mono ?_
            rw [HDB.out]
            rintro e w3 ⟨rfl, rfl⟩
            go_wp2_with fail
            have hke : (k : Int) ≤ (en : Int) := by omega
            have hes : (en : Int) ≤ (s.size : Int) := by omega
            go_region
            have hw5 := ((HT.out.set0 (.int .i64 5)).set1 (.string (s.extract k en))).drew
            obtain ⟨w5, he5⟩ : ∃ w5, ((w1.setCell ⟨w.heap.size + 1, 0, none⟩ (.int .i64 5)).setCell ⟨w.heap.size + 1, 1, none⟩ (.string (s.extract k en))).drew = w5 := ⟨_, rfl⟩
            rw [he5] at hw5 ⊢
            have HDN := Lib.hid hw5.done
            clear he5 y0 y1 y2 yf0 yf1 r0 r1 r2 rf0 rf1 rf2
            have y0 : w5.cell? ⟨w.heap.size + 1, 0, none⟩ = some (.int .i64 5) := hw5.cells.1
            have y1 : w5.cell? ⟨w.heap.size + 1, 1, none⟩ = some (.string (s.extract k en)) := hw5.cells.2.1
            have y2 : w5.cell? ⟨w.heap.size + 1, 2, none⟩ = some (.int .i64 (k : Int)) := hw5.cells.2.2.1
            have yf0 : w5.frozen? ⟨w.heap.size + 1, 0, none⟩ = false := hw5.cells.2.2.2.1
            have yf1 : w5.frozen? ⟨w.heap.size + 1, 1, none⟩ = false := hw5.cells.2.2.2.2
            have r0 : w5.cell? ⟨w.heap.size, 0, none⟩ = some (.int .i64 0) := hw5.res.1
            have r1 : w5.cell? ⟨w.heap.size, 1, none⟩ = some (.string ⟨#[]⟩) := hw5.res.2.1
            have r2 : w5.cell? ⟨w.heap.size, 2, none⟩ = some (.int .i64 0) := hw5.res.2.2.1
            have rf0 : w5.frozen? ⟨w.heap.size, 0, none⟩ = false := hw5.res.2.2.2.1
            have rf1 : w5.frozen? ⟨w.heap.size, 1, none⟩ = false := hw5.res.2.2.2.2.1
            have rf2 : w5.frozen? ⟨w.heap.size, 2, none⟩ = false := hw5.res.2.2.2.2.2
            clear hw5
            have HPT : Hid (s.extract k en = ofL (pre l (s.data.toList.drop en))) := Lib.hid (pre_text HL.out (by omega) (by omega))
            go_wp2_with fail
            refine bodyPost_ret (results14 _ _ w.heap.size _ _ _ rfl (HDN.out _ rfl).1 (HDN.out _ rfl).2.1 (HDN.out _ rfl).2.2.1) rfl ?_
            refine ⟨(HDN.out _ rfl).2.2.2, ?_⟩
            rw [HN.out]
            rw [HPT.out]
            simp only [List.length_drop]
            rw [show s.size - (s.data.toList.length - en) = en by simp; omega]
            rfl
          by_cases h61 : c.toNat = 61
          · have b40 : ((c.toNat : Int) == 40) = false := by simp; omega
            have b41 : ((c.toNat : Int) == 41) = false := by simp; omega
            have b44 : ((c.toNat : Int) == 44) = false := by simp; omega
            have b42 : ((c.toNat : Int) == 42) = false := by simp; omega
            have b61 : ((c.toNat : Int) == 61) = true := by simp; omega
            obtain ⟨en, hen⟩ : ∃ en, en = k + 1 := ⟨_, rfl⟩
            have HN := Lib.hid (show one l = some (5, pre l (s.data.toList.drop en), s.data.toList.drop en) by rw [HONE3.out, if_neg (by simp [cmpB, h61]), if_pos (by simp [signB, h61]), hen, HD1.out, pre_one])
            have hen2 : k ≤ en ∧ en ≤ s.size := by omega
            have hee : (k : Int) + 1 = (en : Int) := by omega
            clear hen h61
            refine (rletter _ _).mono ?_
            rw [HLB.out]
            rintro e w3 ⟨rfl, rfl⟩
            go_wp2_with fail
            with_reducible refine (rdigit _ _).mono ?_
            rw [HDB.out]
            rintro e w3 ⟨rfl, rfl⟩
            go_wp2_with fail
            have hke : (k : Int) ≤ (en : Int) := by omega
            have hes : (en : Int) ≤ (s.size : Int) := by omega
            go_region
            have hw5 := ((HT.out.set0 (.int .i64 5)).set1 (.string (s.extract k en))).drew
            obtain ⟨w5, he5⟩ : ∃ w5, ((w1.setCell ⟨w.heap.size + 1, 0, none⟩ (.int .i64 5)).setCell ⟨w.heap.size + 1, 1, none⟩ (.string (s.extract k en))).drew = w5 := ⟨_, rfl⟩
            rw [he5] at hw5 ⊢
            have HDN := Lib.hid hw5.done
            clear he5 y0 y1 y2 yf0 yf1 r0 r1 r2 rf0 rf1 rf2
            have y0 : w5.cell? ⟨w.heap.size + 1, 0, none⟩ = some (.int .i64 5) := hw5.cells.1
            have y1 : w5.cell? ⟨w.heap.size + 1, 1, none⟩ = some (.string (s.extract k en)) := hw5.cells.2.1
            have y2 : w5.cell? ⟨w.heap.size + 1, 2, none⟩ = some (.int .i64 (k : Int)) := hw5.cells.2.2.1
            have yf0 : w5.frozen? ⟨w.heap.size + 1, 0, none⟩ = false := hw5.cells.2.2.2.1
            have yf1 : w5.frozen? ⟨w.heap.size + 1, 1, none⟩ = false := hw5.cells.2.2.2.2
            have r0 : w5.cell? ⟨w.heap.size, 0, none⟩ = some (.int .i64 0) := hw5.res.1
            have r1 : w5.cell? ⟨w.heap.size, 1, none⟩ = some (.string ⟨#[]⟩) := hw5.res.2.1
            have r2 : w5.cell? ⟨w.heap.size, 2, none⟩ = some (.int .i64 0) := hw5.res.2.2.1
            have rf0 : w5.frozen? ⟨w.heap.size, 0, none⟩ = false := hw5.res.2.2.2.1
            have rf1 : w5.frozen? ⟨w.heap.size, 1, none⟩ = false := hw5.res.2.2.2.2.1
            have rf2 : w5.frozen? ⟨w.heap.size, 2, none⟩ = false := hw5.res.2.2.2.2.2
            clear hw5
            have HPT : Hid (s.extract k en = ofL (pre l (s.data.toList.drop en))) := Lib.hid (pre_text HL.out (by omega) (by omega))
            go_wp2_with fail
            refine bodyPost_ret (results14 _ _ w.heap.size _ _ _ rfl (HDN.out _ rfl).1 (HDN.out _ rfl).2.1 (HDN.out _ rfl).2.2.1) rfl ?_
            refine ⟨(HDN.out _ rfl).2.2.2, ?_⟩
            rw [HN.out]
            rw [HPT.out]
            simp only [List.length_drop]
            rw [show s.size - (s.data.toList.length - en) = en by simp; omega]
            rfl
          have b40 : ((c.toNat : Int) == 40) = false := by simp; omega
          have b41 : ((c.toNat : Int) == 41) = false := by simp; omega
          have b44 : ((c.toNat : Int) == 44) = false := by simp; omega
          have b42 : ((c.toNat : Int) == 42) = false := by simp; omega
          have b61 : ((c.toNat : Int) == 61) = false := by simp; omega
          have HN := Lib.hid (show one l = none by rw [HONE3.out, if_neg (by simp [cmpB, h60, h62, h33]), if_neg (by simp [signB, h60, h62, h40, h41, h44, h42, h61])])
          have HDN := Lib.hid HT.out.done
          clear h60 h62 h33 h40 h41 h44 h42 h61
          refine (rletter _ _).mono ?_
          rw [HLB.out]
          rintro e w3 ⟨rfl, rfl⟩
          go_wp2_with fail
          with_reducible refine (rdigit _ _).mono ?_
          rw [HDB.out]
          rintro e w3 ⟨rfl, rfl⟩
          go_wp2_with fail
          refine bodyPost_ret (results14 _ _ w.heap.size _ _ _ rfl (HDN.out _ rfl).1 (HDN.out _ rfl).2.1 (HDN.out _ rfl).2.2.1) rfl ?_
          refine ⟨(HDN.out _ rfl).2.2.2, ?_⟩
          rw [HN.out]
          exact ⟨_, _, _, _, rfl⟩

end Go.Proofs.Ytcmdcdjclmpncaa
