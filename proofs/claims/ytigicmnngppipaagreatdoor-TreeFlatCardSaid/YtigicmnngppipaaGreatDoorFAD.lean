/- Several texts of this proof, laid together. Conditions: as each says. -/
import Derived.Test.YtigicmnngppipaaGreatDoorFAC
/- The walk from a number's label on. Condition: the text's length. -/
namespace Go.Proofs.YtigicmnngppipaaGreatDoor.Lx
open Go.RowKit
theorem num_digit {s : ByteArray} {k : Nat} (p : Bool) (h : digitB (hd (s.data.toList.drop k)) = true) : k < s.size ∧ numR p (s.data.toList.drop k) = numR p (s.data.toList.drop (k + 1)) ∧ (hd (s.data.toList.drop k)).toNat ≠ 46 := by
  by_cases hk : k < s.size
  · rw [hd_in s k hk] at h ⊢
    refine ⟨hk, ?_, fun e => by rw [show s[k] = 46 from UInt8.toNat_inj.1 e] at h; exact absurd h (by decide)⟩
    rw [drop_cons s k hk, numR, if_pos h]
  · rw [hd_out s k hk] at h; exact absurd h (by decide)
theorem num_point {s : ByteArray} {k : Nat} (h0 : digitB (hd (s.data.toList.drop k)) = false) (h1 : (hd (s.data.toList.drop k)).toNat = 46) (h2 : digitB (hd (s.data.toList.drop (k + 1))) = true) : k < s.size ∧ numR false (s.data.toList.drop k) = numR true (s.data.toList.drop (k + 1)) := by
  by_cases hk : k < s.size
  · rw [hd_in s k hk] at h0 h1
    refine ⟨hk, ?_⟩
    rw [drop_cons s k hk, numR]
    simp [h0, h1, h2]
  · rw [hd_out s k hk] at h1; exact absurd h1 (by decide)
theorem num_stop {s : ByteArray} {k : Nat} (p : Bool) (h0 : digitB (hd (s.data.toList.drop k)) = false) (h : p = true ∨ (hd (s.data.toList.drop k)).toNat ≠ 46 ∨ digitB (hd (s.data.toList.drop (k + 1))) = false) : numR p (s.data.toList.drop k) = s.data.toList.drop k := by
  by_cases hk : k < s.size
  · rw [hd_in s k hk] at h0 h
    rw [drop_cons s k hk, numR]
    rcases h with h | h | h <;> simp [h0, h]
  · rw [List.drop_eq_nil_of_le (by simp; omega), numR]
set_option maxRecDepth 100000 in
set_option maxHeartbeats 1000000 in
theorem pass2 (s : ByteArray) (l : List UInt8) (X : Nat) (w : World) (hs : s.size ≤ 1048576) (Q : Exit → Act → World → Prop) (hret : ∀ a' w', Ret s l X w a' w' → Q .ret a' w') (rest : Code) (hr : (Tryz.f41.body.bind firstScope).bind (findLabel · 2) = some rest)
    (a : Act) (wr : World) (hJ : J2 s l X w a wr) : rest.wp Tryz.prog (Jumps (fun l' a' w' => JL s l X w l' a' w' ∧ mu s X l' a' w' < mu s X 2 a wr) Q) a wr := by
  change some _ = some rest at hr
  cases hr
  obtain ⟨⟨hd0, hsz, g0, g2⟩, k, kind, at_, p, g6, hw, hlt, hk, hl, hone⟩ := hJ
  have hmu : mu s X 2 a wr = 3 * (s.size - k) + 1 := by simp [mu, hw.kOfW, rank]
  rw [hmu]
  obtain ⟨f, rfl, hf⟩ := frame_of a hsz hd0
  rw [hf] at g0 g2 g6
  rw [g0, g2, g6]
  clear hf hsz hd0 g0 g2 g6 hmu
  have HL := Lib.hid hl
  have HONE := Lib.hid hone
  have HRET := Lib.hid hret
  have x0 : wr.cell? ⟨X, 0, none⟩ = some (.string s) := hw.cells.1
  have x1 : wr.cell? ⟨X, 1, none⟩ = some (.int .i64 (k : Nat)) := hw.cells.2.1
  have xf : wr.frozen? ⟨X, 1, none⟩ = false := hw.cells.2.2
  have t0 : wr.cell? ⟨w.heap.size, 0, none⟩ = some (.int .i64 kind) := hw.tok.1
  have t1 : wr.cell? ⟨w.heap.size, 1, none⟩ = some (.string ⟨#[]⟩) := hw.tok.2.1
  have t2 : wr.cell? ⟨w.heap.size, 2, none⟩ = some (.int .i64 at_) := hw.tok.2.2.1
  have tf0 : wr.frozen? ⟨w.heap.size, 0, none⟩ = false := hw.tok.2.2.2.1
  have tf1 : wr.frozen? ⟨w.heap.size, 1, none⟩ = false := hw.tok.2.2.2.2.1
  have tf2 : wr.frozen? ⟨w.heap.size, 2, none⟩ = false := hw.tok.2.2.2.2.2
  have hw1 := hw.setKind 3
  obtain ⟨w1, he1⟩ : ∃ w1, wr.setCell ⟨w.heap.size, 0, none⟩ (.int .i64 3) = w1 := ⟨_, rfl⟩
  rw [he1] at hw1
  have HW := Lib.hid hw1
  go_wp2_with fail
  clear he1 hl hone hret x0 x1 xf t0 t1 t2 tf0 tf1 tf2
  have x0 : w1.cell? ⟨X, 0, none⟩ = some (.string s) := hw1.cells.1
  have x1 : w1.cell? ⟨X, 1, none⟩ = some (.int .i64 (k : Nat)) := hw1.cells.2.1
  have xf : w1.frozen? ⟨X, 1, none⟩ = false := hw1.cells.2.2
  have t0 : w1.cell? ⟨w.heap.size, 0, none⟩ = some (.int .i64 3) := hw1.tok.1
  have t1 : w1.cell? ⟨w.heap.size, 1, none⟩ = some (.string ⟨#[]⟩) := hw1.tok.2.1
  have t2 : w1.cell? ⟨w.heap.size, 2, none⟩ = some (.int .i64 at_) := hw1.tok.2.2.1
  have tf0 : w1.frozen? ⟨w.heap.size, 0, none⟩ = false := hw1.tok.2.2.2.1
  have tf1 : w1.frozen? ⟨w.heap.size, 1, none⟩ = false := hw1.tok.2.2.2.2.1
  have tf2 : w1.frozen? ⟨w.heap.size, 2, none⟩ = false := hw1.tok.2.2.2.2.2
  clear hw hw1
  refine (peek0 s X k _ hs hk x0 x1).mono ?_
  rintro e w2 ⟨rfl, m1, rfl⟩
  have hat : (0 : Int) ≤ (at_ : Int) := by omega
  have hatk : (at_ : Int) ≤ (k : Int) := by omega
  have hks : (k : Int) ≤ (s.size : Int) := by omega
  cases hc : digitB (hd (s.data.toList.drop k)) with
  | true =>
    obtain ⟨hks2, hnr, h46⟩ := num_digit p hc
    have HNR := Lib.hid hnr
    have HC := Lib.hid hc
    have h46b : (((hd (s.data.toList.drop k)).toNat : Int) == 46) = false := by simp; omega
    clear hnr hc h46
    cases p with
    | true =>
      have HW3 := Lib.hid ((HW.out.drewN m1).setK (k + 1) (.int .i64 ((k : Int) + 1)) (by go_num))
      go_wp2_with fail
      refine (digit _ _).mono ?_
      rw [HC.out]
      rintro e w3 ⟨rfl, rfl⟩
      go_wp2_with fail
      go_step3
      refine ⟨⟨⟨rfl, rfl, rfl, rfl⟩, k + 1, _, at_, true, rfl, HW3.out, by omega, by omega, HL.out, ?_⟩, ?_⟩
      · rw [HONE.out, HNR.out]
      · simp [mu, HW3.out.kOfW, rank]; omega
    | false =>
      go_wp2_with fail
      refine (digit _ _).mono ?_
      rw [HC.out]
      rintro e w3 ⟨rfl, rfl⟩
      go_wp2_with fail
      refine (peek0 s X k _ hs hk (by exact x0) (by exact x1)).mono ?_
      rintro e w2 ⟨rfl, m2, rfl⟩
      have HW3 := Lib.hid ((HW.out.drewN (m1 + m2)).setK (k + 1) (.int .i64 ((k : Int) + 1)) (by go_num))
      go_wp2_with fail
      go_step3
      refine ⟨⟨⟨rfl, rfl, rfl, rfl⟩, k + 1, _, at_, false, rfl, HW3.out, by omega, by omega, HL.out, ?_⟩, ?_⟩
      · rw [HONE.out, HNR.out]
      · simp [mu, HW3.out.kOfW, rank]; omega
  | false =>
    have HC := Lib.hid hc
    cases p with
    | true =>
      have HNR := Lib.hid (num_stop true hc (.inl rfl))
      clear hc
      go_wp2_with fail
      refine (digit _ _).mono ?_
      rw [HC.out]
      rintro e w3 ⟨rfl, rfl⟩
      go_wp2_with fail
      have HW5 := Lib.hid (HW.out.drewN (m1))
      by_cases h40 : k - at_ ≤ 40
      · have h40' : ¬ (40 : Int) < (k : Int) - (at_ : Int) := by omega
        have HN : Hid (one l = some (3, pre l (s.data.toList.drop k), s.data.toList.drop k)) := Lib.hid (by
          rw [HONE.out, HNR.out, numOne, if_pos (by rw [HL.out]; simp; omega)])
        go_quiet (fail)
        have HW6 := Lib.hid (HW.out.drewN (m1 + nq))
        go_wp2_with fail
        go_step3
        rename_i hK
        refine hK _ _ ?_
        exact endR s l X w _ Q HRET.out _ rfl _ _ ⟨⟨rfl, rfl, rfl, rfl⟩, k, 3, at_, HW6.out, hlt, hk, HL.out, HN.out⟩
      · have h40' : (40 : Int) < (k : Int) - (at_ : Int) := by omega
        have HN : Hid (one l = none) := Lib.hid (by
          rw [HONE.out, HNR.out, numOne, if_neg (by rw [HL.out]; simp; omega)])
        go_quiet (fail)
        have HW6 := Lib.hid (HW.out.drewN (m1 + nq))
        go_wp2_with fail
        refine HRET.out _ _ ?_
        exact ⟨⟨rfl, rfl, rfl, rfl⟩, _, _, _, _, _, rfl, HW6.out.selfStore, hk, nextV_none HL.out (by omega) HN.out _ _ _⟩
    | false =>
      by_cases h46 : (hd (s.data.toList.drop k)).toNat = 46
      · have h46b : (((hd (s.data.toList.drop k)).toNat : Int) == 46) = true := by simp; omega
        cases hcd : digitB (hd (s.data.toList.drop (k + 1))) with
        | true =>
          obtain ⟨hks2, hnr⟩ := num_point hc h46 hcd
          have HNR := Lib.hid hnr
          have HCD := Lib.hid hcd
          clear hc h46 hcd hnr
          go_wp2_with fail
          refine (digit _ _).mono ?_
          rw [HC.out]
          rintro e w3 ⟨rfl, rfl⟩
          go_wp2_with fail
          refine (peek0 s X k _ hs hk (by exact x0) (by exact x1)).mono ?_
          rintro e w2 ⟨rfl, m2, rfl⟩
          go_wp2_with fail
          refine (peek1 s X k _ hs hk (by exact x0) (by exact x1)).mono ?_
          rintro e w2 ⟨rfl, m3, rfl⟩
          go_wp2_with fail
          refine (digit _ _).mono ?_
          rw [HCD.out]
          rintro e w3 ⟨rfl, rfl⟩
          go_wp2_with fail
          refine (peek0 s X k _ hs hk (by exact x0) (by exact x1)).mono ?_
          rintro e w2 ⟨rfl, m4, rfl⟩
          have HW3 := Lib.hid ((HW.out.drewN (m1 + m2 + m3 + m4)).setK (k + 1) (.int .i64 ((k : Int) + 1)) (by go_num))
          go_wp2_with fail
          go_step3
          refine ⟨⟨⟨rfl, rfl, rfl, rfl⟩, k + 1, _, at_, true, rfl, HW3.out, by omega, by omega, HL.out, ?_⟩, ?_⟩
          · rw [HONE.out, HNR.out]
          · simp [mu, HW3.out.kOfW, rank]; omega
        | false =>
          have HNR := Lib.hid (num_stop false hc (.inr (.inr hcd)))
          have HCD := Lib.hid hcd
          clear hc h46 hcd
          go_wp2_with fail
          refine (digit _ _).mono ?_
          rw [HC.out]
          rintro e w3 ⟨rfl, rfl⟩
          go_wp2_with fail
          refine (peek0 s X k _ hs hk (by exact x0) (by exact x1)).mono ?_
          rintro e w2 ⟨rfl, m2, rfl⟩
          go_wp2_with fail
          refine (peek1 s X k _ hs hk (by exact x0) (by exact x1)).mono ?_
          rintro e w2 ⟨rfl, m3, rfl⟩
          go_wp2_with fail
          refine (digit _ _).mono ?_
          rw [HCD.out]
          rintro e w3 ⟨rfl, rfl⟩
          go_wp2_with fail
          have HW5 := Lib.hid (HW.out.drewN (m1 + m2 + m3))
          by_cases h40 : k - at_ ≤ 40
          · have h40' : ¬ (40 : Int) < (k : Int) - (at_ : Int) := by omega
            have HN : Hid (one l = some (3, pre l (s.data.toList.drop k), s.data.toList.drop k)) := Lib.hid (by
              rw [HONE.out, HNR.out, numOne, if_pos (by rw [HL.out]; simp; omega)])
            go_quiet (fail)
            have HW6 := Lib.hid (HW.out.drewN (m1 + m2 + m3 + nq))
            go_wp2_with fail
            go_step3
            rename_i hK
            refine hK _ _ ?_
            exact endR s l X w _ Q HRET.out _ rfl _ _ ⟨⟨rfl, rfl, rfl, rfl⟩, k, 3, at_, HW6.out, hlt, hk, HL.out, HN.out⟩
          · have h40' : (40 : Int) < (k : Int) - (at_ : Int) := by omega
            have HN : Hid (one l = none) := Lib.hid (by
              rw [HONE.out, HNR.out, numOne, if_neg (by rw [HL.out]; simp; omega)])
            go_quiet (fail)
            have HW6 := Lib.hid (HW.out.drewN (m1 + m2 + m3 + nq))
            go_wp2_with fail
            refine HRET.out _ _ ?_
            exact ⟨⟨rfl, rfl, rfl, rfl⟩, _, _, _, _, _, rfl, HW6.out.selfStore, hk, nextV_none HL.out (by omega) HN.out _ _ _⟩
      · have h46b : (((hd (s.data.toList.drop k)).toNat : Int) == 46) = false := by simp; omega
        have HNR := Lib.hid (num_stop false hc (.inr (.inl h46)))
        clear hc h46
        go_wp2_with fail
        refine (digit _ _).mono ?_
        rw [HC.out]
        rintro e w3 ⟨rfl, rfl⟩
        go_wp2_with fail
        refine (peek0 s X k _ hs hk (by exact x0) (by exact x1)).mono ?_
        rintro e w2 ⟨rfl, m2, rfl⟩
        go_wp2_with fail
        have HW5 := Lib.hid (HW.out.drewN (m1 + m2))
        by_cases h40 : k - at_ ≤ 40
        · have h40' : ¬ (40 : Int) < (k : Int) - (at_ : Int) := by omega
          have HN : Hid (one l = some (3, pre l (s.data.toList.drop k), s.data.toList.drop k)) := Lib.hid (by
            rw [HONE.out, HNR.out, numOne, if_pos (by rw [HL.out]; simp; omega)])
          go_quiet (fail)
          have HW6 := Lib.hid (HW.out.drewN (m1 + m2 + nq))
          go_wp2_with fail
          go_step3
          rename_i hK
          refine hK _ _ ?_
          exact endR s l X w _ Q HRET.out _ rfl _ _ ⟨⟨rfl, rfl, rfl, rfl⟩, k, 3, at_, HW6.out, hlt, hk, HL.out, HN.out⟩
        · have h40' : (40 : Int) < (k : Int) - (at_ : Int) := by omega
          have HN : Hid (one l = none) := Lib.hid (by
            rw [HONE.out, HNR.out, numOne, if_neg (by rw [HL.out]; simp; omega)])
          go_quiet (fail)
          have HW6 := Lib.hid (HW.out.drewN (m1 + m2 + nq))
          go_wp2_with fail
          refine HRET.out _ _ ?_
          exact ⟨⟨rfl, rfl, rfl, rfl⟩, _, _, _, _, _, rfl, HW6.out.selfStore, hk, nextV_none HL.out (by omega) HN.out _ _ _⟩
end Go.Proofs.YtigicmnngppipaaGreatDoor.Lx
/- The walk from a quoted text's label on. Condition: the text's length. -/
namespace Go.Proofs.YtigicmnngppipaaGreatDoor.Lx
open Go.RowKit
theorem info5 : (Tryz.prog.info? 5).map (fun i => (i.zero, i.size, i.bytes)) = some (some (.int .u8 0), 1, 1) := by kernel_rfl
theorem str_of_own {w : World} {base : Nat} {v : Value} {l : List UInt8} (h : BOwn w base v l) : (convert 48 9 v).run Tryz.prog w = .ok (.string ⟨l.toArray⟩) w := by
  rcases h.2 with ⟨rfl, h0⟩ | ⟨g, cap, cur, rfl, _⟩
  · have : l = [] := List.length_eq_zero_iff.1 h0
    subst this
    rw [run_convert_bytes_string w 48 9 5 none 0 0 Tryz.underlying48 Tryz.underlying5 Tryz.underlying9]
    rfl
  · refine run_convert_bytes_back w 48 9 5 ⟨g, 0, none⟩ cap l Tryz.underlying48 Tryz.underlying5 Tryz.underlying9 fun j hj => ?_
    have := h.cellAt j (by omega)
    have e : (Addr.add ⟨g, 0, none⟩ j) = ⟨g, j, none⟩ := by unfold Addr.add; split <;> simp_all
    rw [e, this]
    simp [Lib.byteCells, hj]
theorem byteCells_app (l m : List UInt8) : Lib.byteCells (l ++ m) = Lib.byteCells l ++ Lib.byteCells m := by simp [Lib.byteCells]
theorem BOwn.nil (w : World) (base : Nat) : BOwn w base (.slice none 0 0) [] := World.ownsRow_nil _ _ _ _
theorem BOwn.snoc {w : World} {base n : Nat} {v : Value} {l : List UInt8} {c : UInt8} {xs : List Value} (h : w.ownsRow base 5 1 v n xs) (hn : n = l.length + 1) (hx : xs = Lib.byteCells l ++ [.int .u8 c.toNat]) : BOwn w base v (l ++ [c]) := by
  unfold BOwn
  rw [byteCells_app, List.length_append]
  subst hn hx
  exact h
theorem Wd.appended {s text : ByteArray} {X k : Nat} {w wr w1 : World} {kind at_ : Int} {v : Value} {l : List UInt8} {o : Obj} (h : Wd s X w wr k kind text at_) (hown : BOwn wr (w.heap.size + 1) v l) (hg : ((wr.alloc o).drew).grownBy w1 v.ownBlock) : Wd s X w w1 k kind text at_ := by
  obtain ⟨g0, g1, g2, g3⟩ := h
  have hge : ∀ j, v.ownBlock = some j → w.heap.size + 1 ≤ j := fun j hj => (hown.lt j hj).1
  have lX : X < wr.heap.size := by
    rcases Nat.lt_or_ge X wr.heap.size with h' | h'
    · exact h'
    · simp [Array.getElem?_eq_none h'] at g0
  have lT : w.heap.size < wr.heap.size := by
    rcases Nat.lt_or_ge w.heap.size wr.heap.size with h' | h'
    · exact h'
    · simp [Array.getElem?_eq_none h'] at g1
  have bl : ∀ i, i ≤ w.heap.size → w1.heap[i]? = wr.heap[i]? := fun i hi =>
    (hg.block i (by simp; omega) (fun e => by have := hge i e.symm; omega)).trans (Below.heap_alloc wr o i (by omega))
  refine ⟨(bl X (by omega)).trans g0, (bl _ (by omega)).trans g1, g2, hg.os.trans g3.os, hg.tape.trans g3.tape, hg.output.trans g3.output, ?_, fun i hi hne => (bl i (by omega)).trans (g3.block i hi hne)⟩
  have := hg.size
  have := g3.size
  simp at *
  omega
theorem quo_none (c : UInt8) : quoOne c none = none := rfl
theorem quo_some (c : UInt8) (t q : List UInt8) : quoOne c (some (t, q)) = some (if c.toNat = 39 then 4 else 2, t, q) := rfl
set_option maxRecDepth 100000 in
set_option maxHeartbeats 1000000 in
theorem pass3 (s : ByteArray) (l : List UInt8) (X : Nat) (w : World) (hs : s.size ≤ 1048576) (Q : Exit → Act → World → Prop) (hret : ∀ a' w', Ret s l X w a' w' → Q .ret a' w') (rest : Code) (hr : (Tryz.f41.body.bind firstScope).bind (findLabel · 3) = some rest)
    (a : Act) (wr : World) (hJ : J3 s l X w a wr) : rest.wp Tryz.prog (Jumps (fun l' a' w' => JL s l X w l' a' w' ∧ mu s X l' a' w' < mu s X 3 a wr) Q) a wr := by
  change some _ = some rest at hr
  cases hr
  obtain ⟨i0, hi, hz0, hz1, hz2⟩ := info_parts info5
  have HI := Lib.hid hi
  have HZ0 := Lib.hid hz0
  have HZ1 := Lib.hid hz1
  have HZ2 := Lib.hid hz2
  clear hi hz0 hz1 hz2
  obtain ⟨⟨hd0, hsz, g0, g2⟩, k, kind, at_, c, v, acc, g5, g4, hown, hacc, hw, hlt, hk, hl, hc92, hone⟩ := hJ
  have hmu : mu s X 3 a wr = 3 * (s.size - k) + 1 := by simp [mu, hw.kOfW, rank]
  rw [hmu]
  obtain ⟨f, rfl, hf⟩ := frame_of a hsz hd0
  rw [hf] at g0 g2 g4 g5
  rw [g0, g2, g4, g5]
  clear hf hsz hd0 g0 g2 g4 g5 hmu
  have HL := Lib.hid hl
  have HONE := Lib.hid hone
  have HRET := Lib.hid hret
  have HW := Lib.hid hw
  have HO := Lib.hid hown
  have HC92 := Lib.hid hc92
  have hXT := hw.2.2.1
  have hTT : w.heap.size < wr.heap.size := by
    have := hw.2.1
    rcases Nat.lt_or_ge w.heap.size wr.heap.size with h' | h'
    · exact h'
    · simp [Array.getElem?_eq_none h'] at this
  have ak : v.ownBlock ≠ some X := fun e => by
    have := (hown.lt _ e).1
    omega
  have x0 : wr.cell? ⟨X, 0, none⟩ = some (.string s) := hw.cells.1
  have x1 : wr.cell? ⟨X, 1, none⟩ = some (.int .i64 (k : Nat)) := hw.cells.2.1
  have xf : wr.frozen? ⟨X, 1, none⟩ = false := hw.cells.2.2
  have t0 : wr.cell? ⟨w.heap.size, 0, none⟩ = some (.int .i64 kind) := hw.tok.1
  have t1 : wr.cell? ⟨w.heap.size, 1, none⟩ = some (.string ⟨#[]⟩) := hw.tok.2.1
  have t2 : wr.cell? ⟨w.heap.size, 2, none⟩ = some (.int .i64 at_) := hw.tok.2.2.1
  have tf0 : wr.frozen? ⟨w.heap.size, 0, none⟩ = false := hw.tok.2.2.2.1
  have tf1 : wr.frozen? ⟨w.heap.size, 1, none⟩ = false := hw.tok.2.2.2.2.1
  have tf2 : wr.frozen? ⟨w.heap.size, 2, none⟩ = false := hw.tok.2.2.2.2.2
  have hk0 : (0 : Int) ≤ (k : Int) := by omega
  clear hl hone hret hw hown hc92
  by_cases hks : k < s.size
  · have hks' : (k : Int) < (s.size : Int) := by omega
    have hks'' : ¬ (s.size : Int) ≤ (k : Int) := by omega
    obtain ⟨d, hdd⟩ : ∃ d, s[k] = d := ⟨_, rfl⟩
    have hdc := drop_cons s k hks
    rw [hdd] at hdc
    have HDC := Lib.hid hdc
    clear hdc
    by_cases hdq : d = c
    · subst hdq
      have HQ := Lib.hid (show one l = some (if d.toNat = 39 then 4 else 2, acc, s.data.toList.drop (k + 1)) by rw [HONE.out, HDC.out, quoted_end, quo_some])
      go_wp2_with fail
      go_quiet (fail)
      revert nq
      intro n1
      go_wp2_with fail
      go_quiet (fail)
      have hw6 := (HW.out.drewN (n1 + nq)).setK (k + 1) (.int .i64 ((k : Int) + 1)) (by go_num)
      have ho6 : BOwn ((wr.drewN (n1 + nq)).setCell ⟨X, 1, none⟩ (.int .i64 ((k : Int) + 1))) (w.heap.size + 1) v acc := ownsRow_setCell_below HO.out (by simp; omega) _
      obtain ⟨w6, he6⟩ : ∃ w6, (wr.drewN (n1 + nq)).setCell ⟨X, 1, none⟩ (.int .i64 ((k : Int) + 1)) = w6 := ⟨_, rfl⟩
      rw [he6] at hw6 ho6
      have hcv := str_of_own (show BOwn w6.drew (w.heap.size + 1) v acc from World.ownsRow.drew ho6)
      have hcv2 := str_of_own (show BOwn (w6.setCell ⟨w.heap.size, 0, none⟩ (.int .i64 2)).drew (w.heap.size + 1) v acc from World.ownsRow.drew (ownsRow_setCell_below ho6 (by simp) _))
      have HW6 := Lib.hid hw6
      go_wp2_with fail
      clear he6 ho6 x0 x1 xf t0 t1 t2 tf0 tf1 tf2
      have x0 : w6.cell? ⟨X, 0, none⟩ = some (.string s) := hw6.cells.1
      have x1 : w6.cell? ⟨X, 1, none⟩ = some (.int .i64 ((k + 1 : Nat))) := hw6.cells.2.1
      have xf : w6.frozen? ⟨X, 1, none⟩ = false := hw6.cells.2.2
      have t0 : w6.cell? ⟨w.heap.size, 0, none⟩ = some (.int .i64 kind) := hw6.tok.1
      have t1 : w6.cell? ⟨w.heap.size, 1, none⟩ = some (.string ⟨#[]⟩) := hw6.tok.2.1
      have t2 : w6.cell? ⟨w.heap.size, 2, none⟩ = some (.int .i64 at_) := hw6.tok.2.2.1
      have tf0 : w6.frozen? ⟨w.heap.size, 0, none⟩ = false := hw6.tok.2.2.2.1
      have tf1 : w6.frozen? ⟨w.heap.size, 1, none⟩ = false := hw6.tok.2.2.2.2.1
      have tf2 : w6.frozen? ⟨w.heap.size, 2, none⟩ = false := hw6.tok.2.2.2.2.2
      clear hw6
      go_region
      have hw7 := ((HW6.out.setKind 2).setText ⟨acc.toArray⟩).drew
      obtain ⟨w7, he7⟩ : ∃ w7, ((w6.setCell ⟨w.heap.size, 0, none⟩ (.int .i64 2)).setCell ⟨w.heap.size, 1, none⟩ (.string ⟨acc.toArray⟩)).drew = w7 := ⟨_, rfl⟩
      rw [he7] at hw7 ⊢
      have HW7 := Lib.hid hw7
      clear he7 hcv hcv2 x0 x1 xf t0 t1 t2 tf0 tf1 tf2
      have x0 : w7.cell? ⟨X, 0, none⟩ = some (.string s) := hw7.cells.1
      have x1 : w7.cell? ⟨X, 1, none⟩ = some (.int .i64 ((k + 1 : Nat))) := hw7.cells.2.1
      have xf : w7.frozen? ⟨X, 1, none⟩ = false := hw7.cells.2.2
      have t0 : w7.cell? ⟨w.heap.size, 0, none⟩ = some (.int .i64 2) := hw7.tok.1
      have t1 : w7.cell? ⟨w.heap.size, 1, none⟩ = some (.string ⟨acc.toArray⟩) := hw7.tok.2.1
      have t2 : w7.cell? ⟨w.heap.size, 2, none⟩ = some (.int .i64 at_) := hw7.tok.2.2.1
      have tf0 : w7.frozen? ⟨w.heap.size, 0, none⟩ = false := hw7.tok.2.2.2.1
      have tf1 : w7.frozen? ⟨w.heap.size, 1, none⟩ = false := hw7.tok.2.2.2.2.1
      have tf2 : w7.frozen? ⟨w.heap.size, 2, none⟩ = false := hw7.tok.2.2.2.2.2
      clear hw7
      by_cases h39 : d.toNat = 39
      · have h39' : ((d.toNat : Int) == 39) = true := by simp; omega
        have HN : Hid (one l = some (4, acc, s.data.toList.drop (k + 1))) := Lib.hid (by rw [HQ.out, if_pos h39])
        have HW8 := Lib.hid (HW7.out.setKind 4).selfStore
        clear h39
        go_wp2_with fail
        refine HRET.out _ _ ?_
        exact ⟨⟨rfl, rfl, rfl, rfl⟩, _, _, _, _, _, rfl, HW8.out, by omega, nextV_some HL.out (by omega) HN.out _ rfl _ (by simp; omega)⟩
      · have h39' : ((d.toNat : Int) == 39) = false := by simp; omega
        have HN : Hid (one l = some (2, acc, s.data.toList.drop (k + 1))) := Lib.hid (by rw [HQ.out, if_neg h39])
        have HW8 := Lib.hid HW7.out.selfStore
        clear h39
        go_wp2_with fail
        refine HRET.out _ _ ?_
        exact ⟨⟨rfl, rfl, rfl, rfl⟩, _, _, _, _, _, rfl, HW8.out, by omega, nextV_some HL.out (by omega) HN.out _ rfl _ (by simp; omega)⟩
    · have hdq' : ((d.toNat : Int) == (c.toNat : Int)) = false := by
        rw [beq_eq_false_iff_ne]
        intro h
        exact hdq (UInt8.toNat_inj.1 (by omega))
      by_cases h92 : d.toNat = 92
      · have h92' : ((d.toNat : Int) == 92) = true := by simp; omega
        go_wp2_with fail
        go_quiet (fail)
        revert nq
        intro n1
        go_wp2_with fail
        go_quiet (fail)
        revert nq
        intro n2
        go_wp2_with fail
        go_quiet (fail)
        obtain ⟨k1, hk1⟩ : ∃ k1, k1 = k + 1 := ⟨_, rfl⟩
        have hw6 := (HW.out.drewN (n1 + n2 + nq)).setK k1 (.int .i64 ((k : Int) + 1)) (by rw [hk1]; go_num)
        have ho6 : BOwn ((wr.drewN (n1 + n2 + nq)).setCell ⟨X, 1, none⟩ (.int .i64 ((k : Int) + 1))) (w.heap.size + 1) v acc := ownsRow_setCell_below HO.out (by simp; omega) _
        obtain ⟨w6, he6⟩ : ∃ w6, (wr.drewN (n1 + n2 + nq)).setCell ⟨X, 1, none⟩ (.int .i64 ((k : Int) + 1)) = w6 := ⟨_, rfl⟩
        rw [he6] at hw6 ho6
        have HW6 := Lib.hid hw6
        have HO6 := Lib.hid ho6
        have hT6 : w.heap.size < w6.heap.size := by rw [← he6]; simpa [World.setCell] using hTT
        have HK1 := Lib.hid hk1
        have hkk : k < k1 ∧ k1 ≤ k + 1 := by omega
        rw [← hk1] at HDC
        clear hk1
        go_wp2_with fail
        clear he6 ho6 x0 x1 xf t0 t1 t2 tf0 tf1 tf2 hk0 hks' hks'' hdd
        have x0 : w6.cell? ⟨X, 0, none⟩ = some (.string s) := hw6.cells.1
        have x1 : w6.cell? ⟨X, 1, none⟩ = some (.int .i64 (k1 : Nat)) := hw6.cells.2.1
        have xf : w6.frozen? ⟨X, 1, none⟩ = false := hw6.cells.2.2
        have t0 : w6.cell? ⟨w.heap.size, 0, none⟩ = some (.int .i64 kind) := hw6.tok.1
        have t1 : w6.cell? ⟨w.heap.size, 1, none⟩ = some (.string ⟨#[]⟩) := hw6.tok.2.1
        have t2 : w6.cell? ⟨w.heap.size, 2, none⟩ = some (.int .i64 at_) := hw6.tok.2.2.1
        have tf0 : w6.frozen? ⟨w.heap.size, 0, none⟩ = false := hw6.tok.2.2.2.1
        have tf1 : w6.frozen? ⟨w.heap.size, 1, none⟩ = false := hw6.tok.2.2.2.2.1
        have tf2 : w6.frozen? ⟨w.heap.size, 2, none⟩ = false := hw6.tok.2.2.2.2.2
        clear hw6
        have hk0 : (0 : Int) ≤ (k1 : Int) := by omega
        by_cases hks1 : k1 < s.size
        · have hks' : (k1 : Int) < (s.size : Int) := by omega
          have hks'' : ¬ (s.size : Int) ≤ (k1 : Int) := by omega
          obtain ⟨e, hee⟩ : ∃ e, s[k1] = e := ⟨_, rfl⟩
          have hdc := drop_cons s k1 hks1
          rw [hee] at hdc
          have HDE := Lib.hid hdc
          clear hdc
          by_cases hec : e = c
          · subst hec
            have hb0 : ((e.toNat : Int) != (e.toNat : Int)) = false := by simp
            have HQL := Lib.hid (quoted_esc e acc d e (s.data.toList.drop (k1 + 1)) hdq h92 (.inl rfl))
            go_quiet (fail)
            obtain ⟨w7, he7⟩ : ∃ w7, w6.drewN nq = w7 := ⟨_, rfl⟩
            have hw7 := HW6.out.drewN nq
            have ho7 : BOwn (w6.drewN nq) (w.heap.size + 1) v acc := HO6.out
            rw [he7] at hw7 ho7 ⊢
            have HW7 := Lib.hid hw7
            have HO7 := Lib.hid ho7
            have hT7 : w.heap.size < w7.heap.size := by rw [← he7]; exact hT6
            clear hb0
            go_wp2_with fail
            clear he7 ho7 x0 x1 xf t0 t1 t2 tf0 tf1 tf2
            have x0 : w7.cell? ⟨X, 0, none⟩ = some (.string s) := hw7.cells.1
            have x1 : w7.cell? ⟨X, 1, none⟩ = some (.int .i64 (k1 : Nat)) := hw7.cells.2.1
            have xf : w7.frozen? ⟨X, 1, none⟩ = false := hw7.cells.2.2
            have t0 : w7.cell? ⟨w.heap.size, 0, none⟩ = some (.int .i64 kind) := hw7.tok.1
            have t1 : w7.cell? ⟨w.heap.size, 1, none⟩ = some (.string ⟨#[]⟩) := hw7.tok.2.1
            have t2 : w7.cell? ⟨w.heap.size, 2, none⟩ = some (.int .i64 at_) := hw7.tok.2.2.1
            have tf0 : w7.frozen? ⟨w.heap.size, 0, none⟩ = false := hw7.tok.2.2.2.1
            have tf1 : w7.frozen? ⟨w.heap.size, 1, none⟩ = false := hw7.tok.2.2.2.2.1
            have tf2 : w7.frozen? ⟨w.heap.size, 2, none⟩ = false := hw7.tok.2.2.2.2.2
            clear hw7
            have hm1 : (0 : Int) ≤ (k1 : Int) := by omega
            have hm2 : (k1 : Int) < (s.size : Int) := by omega
            go_region_held3 (fun w' => w'.cell? ⟨X, 0, none⟩ = some (.string s) ∧ w'.cell? ⟨X, 1, none⟩ = some (.int .i64 (k1 : Nat)))
              (first
                | go_keep
                | (go_split_ands
                   refine ⟨?_, ?_⟩
                   · (rw [hgrow.cell_far _ (by simp; omega) (Ne.symm ak)]; assumption)
                   · (rw [hgrow.cell_far _ (by simp; omega) (Ne.symm ak)]; assumption)))
              ((refine step_append_lies _ (by rfl) _ _ _ (by rfl) (w.heap.size + 1) 5 i0 _ 1 1 Tryz.underlying48 HI.out HZ0.out HZ1.out HZ2.out rfl (by omega) v acc.length _ (by rfl) ((World.ownsRow.alloc HO7.out _).drew)
                  ⟨(w7).heap.size, 0, none⟩ 1 1 [.int .u8 (e).toNat] (by rfl) (by rfl) (World.news_of_block (cs := #[.int .u8 (e).toNat]) (t := 5) (fr := (0, 0)) (heap_alloc_new (w7) _)) (by simp [Value.oneCell'])
                  (by omega) (by unfold maxLen; omega) (by omega) (by simp; omega) ((w7).heap.size + 1) (by simp) ?_; intro gg cap w8 hown1 hgrow hat8 hlt8))
            have hw8 := HW7.out.appended HO7.out hgrow
            have ho8 := BOwn.snoc (l := acc) (c := e) hown1 rfl rfl
            have HW9 := Lib.hid (hw8.setK (k1 + 1) (.int .i64 ((k1 : Int) + 1)) (by go_num))
            have HO9 := Lib.hid (show BOwn (w8.setCell ⟨X, 1, none⟩ (.int .i64 ((k1 : Int) + 1))) (w.heap.size + 1) _ _ from ownsRow_setCell_below ho8 (by simp; omega) _)
            clear hgrow hown1 hat8 hlt8 x0 x1 xf t0 t1 t2 tf0 tf1 tf2 ho8
            have x0 : w8.cell? ⟨X, 0, none⟩ = some (.string s) := hw8.cells.1
            have x1 : w8.cell? ⟨X, 1, none⟩ = some (.int .i64 (k1 : Nat)) := hw8.cells.2.1
            have xf : w8.frozen? ⟨X, 1, none⟩ = false := hw8.cells.2.2
            have t0 : w8.cell? ⟨w.heap.size, 0, none⟩ = some (.int .i64 kind) := hw8.tok.1
            have t1 : w8.cell? ⟨w.heap.size, 1, none⟩ = some (.string ⟨#[]⟩) := hw8.tok.2.1
            have t2 : w8.cell? ⟨w.heap.size, 2, none⟩ = some (.int .i64 at_) := hw8.tok.2.2.1
            have tf0 : w8.frozen? ⟨w.heap.size, 0, none⟩ = false := hw8.tok.2.2.2.1
            have tf1 : w8.frozen? ⟨w.heap.size, 1, none⟩ = false := hw8.tok.2.2.2.2.1
            have tf2 : w8.frozen? ⟨w.heap.size, 2, none⟩ = false := hw8.tok.2.2.2.2.2
            clear hw8
            go_wp2_with fail
            go_step3
            refine ⟨⟨⟨rfl, rfl, rfl, rfl⟩, (k1 + 1), _, at_, e, _, acc ++ [e], rfl, rfl, HO9.out, by simp; omega, HW9.out, by omega, by omega, HL.out, HC92.out, ?_⟩, ?_⟩
            · rw [HONE.out, HDC.out, HDE.out, HQL.out]
            · simp [mu, HW9.out.kOfW, rank]; omega
          · have hb0 : ((e.toNat : Int) != (c.toNat : Int)) = true := by
              rw [bne_iff_ne]
              intro h
              exact hec (UInt8.toNat_inj.1 (by omega))
            by_cases he92 : e.toNat = 92
            · have hb1 : ((e.toNat : Int) != 92) = false := by simp; omega
              have HQL := Lib.hid (quoted_esc c acc d e (s.data.toList.drop (k1 + 1)) hdq h92 (.inr he92))
              clear he92
              go_quiet (fail)
              obtain ⟨w7, he7⟩ : ∃ w7, w6.drewN nq = w7 := ⟨_, rfl⟩
              have hw7 := HW6.out.drewN nq
              have ho7 : BOwn (w6.drewN nq) (w.heap.size + 1) v acc := HO6.out
              rw [he7] at hw7 ho7 ⊢
              have HW7 := Lib.hid hw7
              have HO7 := Lib.hid ho7
              have hT7 : w.heap.size < w7.heap.size := by rw [← he7]; exact hT6
              clear hb0 hb1
              go_wp2_with fail
              clear he7 ho7 x0 x1 xf t0 t1 t2 tf0 tf1 tf2
              have x0 : w7.cell? ⟨X, 0, none⟩ = some (.string s) := hw7.cells.1
              have x1 : w7.cell? ⟨X, 1, none⟩ = some (.int .i64 (k1 : Nat)) := hw7.cells.2.1
              have xf : w7.frozen? ⟨X, 1, none⟩ = false := hw7.cells.2.2
              have t0 : w7.cell? ⟨w.heap.size, 0, none⟩ = some (.int .i64 kind) := hw7.tok.1
              have t1 : w7.cell? ⟨w.heap.size, 1, none⟩ = some (.string ⟨#[]⟩) := hw7.tok.2.1
              have t2 : w7.cell? ⟨w.heap.size, 2, none⟩ = some (.int .i64 at_) := hw7.tok.2.2.1
              have tf0 : w7.frozen? ⟨w.heap.size, 0, none⟩ = false := hw7.tok.2.2.2.1
              have tf1 : w7.frozen? ⟨w.heap.size, 1, none⟩ = false := hw7.tok.2.2.2.2.1
              have tf2 : w7.frozen? ⟨w.heap.size, 2, none⟩ = false := hw7.tok.2.2.2.2.2
              clear hw7
              have hm1 : (0 : Int) ≤ (k1 : Int) := by omega
              have hm2 : (k1 : Int) < (s.size : Int) := by omega
              go_region_held3 (fun w' => w'.cell? ⟨X, 0, none⟩ = some (.string s) ∧ w'.cell? ⟨X, 1, none⟩ = some (.int .i64 (k1 : Nat)))
                (first
                  | go_keep
                  | (go_split_ands
                     refine ⟨?_, ?_⟩
                     · (rw [hgrow.cell_far _ (by simp; omega) (Ne.symm ak)]; assumption)
                     · (rw [hgrow.cell_far _ (by simp; omega) (Ne.symm ak)]; assumption)))
                ((refine step_append_lies _ (by rfl) _ _ _ (by rfl) (w.heap.size + 1) 5 i0 _ 1 1 Tryz.underlying48 HI.out HZ0.out HZ1.out HZ2.out rfl (by omega) v acc.length _ (by rfl) ((World.ownsRow.alloc HO7.out _).drew)
                    ⟨(w7).heap.size, 0, none⟩ 1 1 [.int .u8 (e).toNat] (by rfl) (by rfl) (World.news_of_block (cs := #[.int .u8 (e).toNat]) (t := 5) (fr := (0, 0)) (heap_alloc_new (w7) _)) (by simp [Value.oneCell'])
                    (by omega) (by unfold maxLen; omega) (by omega) (by simp; omega) ((w7).heap.size + 1) (by simp) ?_; intro gg cap w8 hown1 hgrow hat8 hlt8))
              have hw8 := HW7.out.appended HO7.out hgrow
              have ho8 := BOwn.snoc (l := acc) (c := e) hown1 rfl rfl
              have HW9 := Lib.hid (hw8.setK (k1 + 1) (.int .i64 ((k1 : Int) + 1)) (by go_num))
              have HO9 := Lib.hid (show BOwn (w8.setCell ⟨X, 1, none⟩ (.int .i64 ((k1 : Int) + 1))) (w.heap.size + 1) _ _ from ownsRow_setCell_below ho8 (by simp; omega) _)
              clear hgrow hown1 hat8 hlt8 x0 x1 xf t0 t1 t2 tf0 tf1 tf2 ho8
              have x0 : w8.cell? ⟨X, 0, none⟩ = some (.string s) := hw8.cells.1
              have x1 : w8.cell? ⟨X, 1, none⟩ = some (.int .i64 (k1 : Nat)) := hw8.cells.2.1
              have xf : w8.frozen? ⟨X, 1, none⟩ = false := hw8.cells.2.2
              have t0 : w8.cell? ⟨w.heap.size, 0, none⟩ = some (.int .i64 kind) := hw8.tok.1
              have t1 : w8.cell? ⟨w.heap.size, 1, none⟩ = some (.string ⟨#[]⟩) := hw8.tok.2.1
              have t2 : w8.cell? ⟨w.heap.size, 2, none⟩ = some (.int .i64 at_) := hw8.tok.2.2.1
              have tf0 : w8.frozen? ⟨w.heap.size, 0, none⟩ = false := hw8.tok.2.2.2.1
              have tf1 : w8.frozen? ⟨w.heap.size, 1, none⟩ = false := hw8.tok.2.2.2.2.1
              have tf2 : w8.frozen? ⟨w.heap.size, 2, none⟩ = false := hw8.tok.2.2.2.2.2
              clear hw8
              go_wp2_with fail
              go_step3
              refine ⟨⟨⟨rfl, rfl, rfl, rfl⟩, (k1 + 1), _, at_, c, _, acc ++ [e], rfl, rfl, HO9.out, by simp; omega, HW9.out, by omega, by omega, HL.out, HC92.out, ?_⟩, ?_⟩
              · rw [HONE.out, HDC.out, HDE.out, HQL.out]
              · simp [mu, HW9.out.kOfW, rank]; omega
            · have hb1 : ((e.toNat : Int) != 92) = true := by simp; omega
              have HN : Hid (one l = none) := Lib.hid (by rw [HONE.out, HDC.out, HDE.out, quoted_bad _ _ _ _ _ hdq h92 (fun h => h.elim hec he92), quo_none])
              clear he92
              go_quiet (fail)
              have HWR := Lib.hid (HW6.out.drewN nq)
              go_wp2_with fail
              refine HRET.out _ _ ?_
              exact ⟨⟨rfl, rfl, rfl, rfl⟩, _, _, _, _, _, rfl, HWR.out.selfStore, by omega, nextV_none HL.out (by omega) HN.out _ _ _⟩
        · have hks'' : (s.size : Int) ≤ (k1 : Int) := by omega
          have HN : Hid (one l = none) := Lib.hid (by rw [HONE.out, HDC.out, show s.data.toList.drop k1 = [] from List.drop_eq_nil_of_le (by simp; omega), quoted_cut _ _ _ hdq, quo_none])
          go_quiet (fail)
          have HWR := Lib.hid (HW6.out.drewN nq)
          go_wp2_with fail
          refine HRET.out _ _ ?_
          exact ⟨⟨rfl, rfl, rfl, rfl⟩, _, _, _, _, _, rfl, HWR.out.selfStore, by omega, nextV_none HL.out (by omega) HN.out _ _ _⟩

      · have h92' : ((d.toNat : Int) == 92) = false := by simp; omega
        have HQL := Lib.hid (quoted_plain c acc d (s.data.toList.drop (k + 1)) hdq h92)
        go_wp2_with fail
        go_quiet (fail)
        revert nq
        intro n1
        go_wp2_with fail
        go_quiet (fail)
        revert nq
        intro n2
        go_wp2_with fail
        go_quiet (fail)
        obtain ⟨w6, he6⟩ : ∃ w6, ((wr.drewN n1).drewN n2).drewN nq = w6 := ⟨_, rfl⟩
        have hw6 := ((HW.out.drewN n1).drewN n2).drewN nq
        have ho6 : BOwn (((wr.drewN n1).drewN n2).drewN nq) (w.heap.size + 1) v acc := HO.out
        rw [he6] at hw6 ho6 ⊢
        have HW6 := Lib.hid hw6
        have HO6 := Lib.hid ho6
        have hT6 : w.heap.size < w6.heap.size := by rw [← he6]; exact hTT
        go_wp2_with fail
        clear he6 ho6 x0 x1 xf t0 t1 t2 tf0 tf1 tf2
        have x0 : w6.cell? ⟨X, 0, none⟩ = some (.string s) := hw6.cells.1
        have x1 : w6.cell? ⟨X, 1, none⟩ = some (.int .i64 (k : Nat)) := hw6.cells.2.1
        have xf : w6.frozen? ⟨X, 1, none⟩ = false := hw6.cells.2.2
        have t0 : w6.cell? ⟨w.heap.size, 0, none⟩ = some (.int .i64 kind) := hw6.tok.1
        have t1 : w6.cell? ⟨w.heap.size, 1, none⟩ = some (.string ⟨#[]⟩) := hw6.tok.2.1
        have t2 : w6.cell? ⟨w.heap.size, 2, none⟩ = some (.int .i64 at_) := hw6.tok.2.2.1
        have tf0 : w6.frozen? ⟨w.heap.size, 0, none⟩ = false := hw6.tok.2.2.2.1
        have tf1 : w6.frozen? ⟨w.heap.size, 1, none⟩ = false := hw6.tok.2.2.2.2.1
        have tf2 : w6.frozen? ⟨w.heap.size, 2, none⟩ = false := hw6.tok.2.2.2.2.2
        clear hw6
        have hm1 : (0 : Int) ≤ (k : Int) := by omega
        have hm2 : (k : Int) < (s.size : Int) := by omega
        go_region_held3 (fun w' => w'.cell? ⟨X, 0, none⟩ = some (.string s) ∧ w'.cell? ⟨X, 1, none⟩ = some (.int .i64 (k : Nat)))
          (first
            | go_keep
            | (go_split_ands
               refine ⟨?_, ?_⟩
               · (rw [hgrow.cell_far _ (by simp; omega) (Ne.symm ak)]; assumption)
               · (rw [hgrow.cell_far _ (by simp; omega) (Ne.symm ak)]; assumption)))
          ((refine step_append_lies _ (by rfl) _ _ _ (by rfl) (w.heap.size + 1) 5 i0 _ 1 1 Tryz.underlying48 HI.out HZ0.out HZ1.out HZ2.out rfl (by omega) v acc.length _ (by rfl) ((World.ownsRow.alloc HO6.out _).drew)
              ⟨(w6).heap.size, 0, none⟩ 1 1 [.int .u8 (d).toNat] (by rfl) (by rfl) (World.news_of_block (cs := #[.int .u8 (d).toNat]) (t := 5) (fr := (0, 0)) (heap_alloc_new (w6) _)) (by simp [Value.oneCell'])
              (by omega) (by unfold maxLen; omega) (by omega) (by simp; omega) ((w6).heap.size + 1) (by simp) ?_; intro gg cap w8 hown1 hgrow hat8 hlt8))
        have hw8 := HW6.out.appended HO6.out hgrow
        have ho8 := BOwn.snoc (l := acc) (c := d) hown1 rfl rfl
        have HW9 := Lib.hid (hw8.setK (k + 1) (.int .i64 ((k : Int) + 1)) (by go_num))
        have HO9 := Lib.hid (show BOwn (w8.setCell ⟨X, 1, none⟩ (.int .i64 ((k : Int) + 1))) (w.heap.size + 1) _ _ from ownsRow_setCell_below ho8 (by simp; omega) _)
        clear hgrow hown1 hat8 hlt8 x0 x1 xf t0 t1 t2 tf0 tf1 tf2 ho8
        have x0 : w8.cell? ⟨X, 0, none⟩ = some (.string s) := hw8.cells.1
        have x1 : w8.cell? ⟨X, 1, none⟩ = some (.int .i64 (k : Nat)) := hw8.cells.2.1
        have xf : w8.frozen? ⟨X, 1, none⟩ = false := hw8.cells.2.2
        have t0 : w8.cell? ⟨w.heap.size, 0, none⟩ = some (.int .i64 kind) := hw8.tok.1
        have t1 : w8.cell? ⟨w.heap.size, 1, none⟩ = some (.string ⟨#[]⟩) := hw8.tok.2.1
        have t2 : w8.cell? ⟨w.heap.size, 2, none⟩ = some (.int .i64 at_) := hw8.tok.2.2.1
        have tf0 : w8.frozen? ⟨w.heap.size, 0, none⟩ = false := hw8.tok.2.2.2.1
        have tf1 : w8.frozen? ⟨w.heap.size, 1, none⟩ = false := hw8.tok.2.2.2.2.1
        have tf2 : w8.frozen? ⟨w.heap.size, 2, none⟩ = false := hw8.tok.2.2.2.2.2
        clear hw8
        go_wp2_with fail
        go_step3
        refine ⟨⟨⟨rfl, rfl, rfl, rfl⟩, (k + 1), _, at_, c, _, acc ++ [d], rfl, rfl, HO9.out, by simp; omega, HW9.out, by omega, by omega, HL.out, HC92.out, ?_⟩, ?_⟩
        · rw [HONE.out, HDC.out, HQL.out]
        · simp [mu, HW9.out.kOfW, rank]; omega
  · have hks'' : (s.size : Int) ≤ (k : Int) := by omega
    have HN : Hid (one l = none) := Lib.hid (by rw [HONE.out, List.drop_eq_nil_of_le (by simp; omega), quoted_nil, quo_none])
    go_wp2_with fail
    go_quiet (fail)
    have HWR := Lib.hid (HW.out.drewN nq)
    go_wp2_with fail
    refine HRET.out _ _ ?_
    exact ⟨⟨rfl, rfl, rfl, rfl⟩, _, _, _, _, _, rfl, HWR.out.selfStore, by omega, nextV_none HL.out (by omega) HN.out _ _ _⟩

end Go.Proofs.YtigicmnngppipaaGreatDoor.Lx
