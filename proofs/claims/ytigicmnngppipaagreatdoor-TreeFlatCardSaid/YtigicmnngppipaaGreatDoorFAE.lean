/- Several texts of this proof, laid together. Conditions: as each says. -/
import Derived.Test.YtigicmnngppipaaGreatDoorFAD
/- The walk from the beginning's label on. Condition: the text's length. -/
namespace Go.Proofs.YtigicmnngppipaaGreatDoor.Lx
open Go.RowKit
theorem u8_of (c : UInt8) : ((c.toNat : Int)).toNat.toUInt8 = c := by simp
theorem idx_spec (c : UInt8) : (signB c = true → 0 ≤ Lib.indexByte [40, 41, 44, 42, 61, 60, 62] c) ∧ (signB c = false → Lib.indexByte [40, 41, 44, 42, 61, 60, 62] c = -1) := by
  have key : ∀ n : Fin 256, (signB (UInt8.ofNat n.val) = true → 0 ≤ Lib.indexByte [40, 41, 44, 42, 61, 60, 62] (UInt8.ofNat n.val)) ∧ (signB (UInt8.ofNat n.val) = false → Lib.indexByte [40, 41, 44, 42, 61, 60, 62] (UInt8.ofNat n.val) = -1) := by decide +kernel
  have := key ⟨c.toNat, c.toNat_lt⟩
  simpa using this
theorem idx_yes (c : UInt8) (h : signB c = true) : ∃ n : Int, 0 ≤ n ∧ ∀ w, Calls Tryz.prog 69 #[.string ⟨#[40, 41, 44, 42, 61, 60, 62]⟩, .int .u8 c.toNat] w fun e w' => e = .returned (.int .i64 n) ∧ w = w' := by
  refine ⟨_, (idx_spec c).1 h, fun w => (Tryz.strings_IndexByte _ _ w).mono fun e w' ⟨he, hw⟩ => ⟨?_, hw.symm⟩⟩
  rw [he, u8_of]
theorem idx_no (c : UInt8) (h : signB c = false) (w : World) : Calls Tryz.prog 69 #[.string ⟨#[40, 41, 44, 42, 61, 60, 62]⟩, .int .u8 c.toNat] w fun e w' => e = .returned (.int .i64 (-1)) ∧ w = w' := by
  refine (Tryz.strings_IndexByte _ _ w).mono fun e w' ⟨he, hw⟩ => ⟨?_, hw.symm⟩
  rw [he, u8_of, (idx_spec c).2 h]
theorem pre_one (c : UInt8) (r : List UInt8) : pre (c :: r) r = [c] := by
  unfold pre
  rw [show (c :: r).length - r.length = 1 by simp]
  simp
/-- All tests of the switch on the token's first byte, in the walk's own form. -/
def eqI (c : UInt8) (n : Int) : Bool := ((c.toNat : Int) == n)
theorem eqI_false {c : UInt8} {n : Nat} (h : c.toNat ≠ n) : ((c.toNat : Int) == (n : Int)) = false := by simp; omega
theorem eqI_true {c : UInt8} {n : Nat} (h : c.toNat = n) : ((c.toNat : Int) == (n : Int)) = true := by simp; omega
set_option maxRecDepth 100000 in
set_option maxHeartbeats 2000000 in
theorem beginR (s : ByteArray) (l : List UInt8) (X : Nat) (w : World) (hs : s.size ≤ 1048576) (G : Nat → Act → World → Prop) (Q : Exit → Act → World → Prop) (hret : ∀ a' w', Ret s l X w a' w' → Q .ret a' w') (R : Code) (hr : (Tryz.f41.body.bind firstScope).bind (findLabel · 0) = some (.seq .skip R))
    (a : Act) (wr : World) (hG : ∀ l' a' w', (JL s l X w l' a' w' ∧ mu s X l' a' w' < mu s X 0 a wr) → G l' a' w') (hJ : J0 s l X w a wr) : R.wp Tryz.prog (Jumps G Q) a wr := by
  change some (Code.seq Code.skip _) = some (.seq .skip R) at hr
  cases hr
  obtain ⟨⟨hd0, hsz, g0, g2⟩, g4, g6, k, at_, hw, hk, hl⟩ := hJ
  have hmu : mu s X 0 a wr = 3 * (s.size - k) + 2 := by simp [mu, hw.kOfW, rank]
  rw [hmu] at hG
  have HG := Lib.hid hG
  clear hG
  obtain ⟨f, rfl, hf⟩ := frame_of a hsz hd0
  rw [hf] at g0 g2 g4 g6
  rw [g0, g2, g4, g6]
  clear hf hsz hd0 g0 g2 g4 g6 hmu
  have HL0 := Lib.hid hl
  have HRET := Lib.hid hret
  have x0 : wr.cell? ⟨X, 0, none⟩ = some (.string s) := hw.cells.1
  have x1 : wr.cell? ⟨X, 1, none⟩ = some (.int .i64 (k : Nat)) := hw.cells.2.1
  have xf : wr.frozen? ⟨X, 1, none⟩ = false := hw.cells.2.2
  have t0 : wr.cell? ⟨w.heap.size, 0, none⟩ = some (.int .i64 0) := hw.tok.1
  have t1 : wr.cell? ⟨w.heap.size, 1, none⟩ = some (.string ⟨#[]⟩) := hw.tok.2.1
  have t2 : wr.cell? ⟨w.heap.size, 2, none⟩ = some (.int .i64 at_) := hw.tok.2.2.1
  have tf0 : wr.frozen? ⟨w.heap.size, 0, none⟩ = false := hw.tok.2.2.2.1
  have tf1 : wr.frozen? ⟨w.heap.size, 1, none⟩ = false := hw.tok.2.2.2.2.1
  have tf2 : wr.frozen? ⟨w.heap.size, 2, none⟩ = false := hw.tok.2.2.2.2.2
  have hw1 := hw.setAt (k : Int)
  obtain ⟨w1, he1⟩ : ∃ w1, wr.setCell ⟨w.heap.size, 2, none⟩ (.int .i64 (k : Int)) = w1 := ⟨_, rfl⟩
  rw [he1] at hw1
  have HW := Lib.hid hw1
  clear hl hret
  go_wp2_with fail
  clear he1 x0 x1 xf t0 t1 t2 tf0 tf1 tf2
  have x0 : w1.cell? ⟨X, 0, none⟩ = some (.string s) := hw1.cells.1
  have x1 : w1.cell? ⟨X, 1, none⟩ = some (.int .i64 (k : Nat)) := hw1.cells.2.1
  have xf : w1.frozen? ⟨X, 1, none⟩ = false := hw1.cells.2.2
  have t0 : w1.cell? ⟨w.heap.size, 0, none⟩ = some (.int .i64 0) := hw1.tok.1
  have t1 : w1.cell? ⟨w.heap.size, 1, none⟩ = some (.string ⟨#[]⟩) := hw1.tok.2.1
  have t2 : w1.cell? ⟨w.heap.size, 2, none⟩ = some (.int .i64 k) := hw1.tok.2.2.1
  have tf0 : w1.frozen? ⟨w.heap.size, 0, none⟩ = false := hw1.tok.2.2.2.1
  have tf1 : w1.frozen? ⟨w.heap.size, 1, none⟩ = false := hw1.tok.2.2.2.2.1
  have tf2 : w1.frozen? ⟨w.heap.size, 2, none⟩ = false := hw1.tok.2.2.2.2.2
  have hXT := hw1.2.2.1
  clear hw hw1
  have hk0 : (0 : Int) ≤ (k : Int) := by omega
  by_cases hks : k < s.size
  · have hks' : (k : Int) < (s.size : Int) := by omega
    have hks'' : ¬ (s.size : Int) ≤ (k : Int) := by omega
    obtain ⟨c, hcc⟩ : ∃ c, s[k] = c := ⟨_, rfl⟩
    have hdc := drop_cons s k hks
    rw [hcc] at hdc
    obtain ⟨k1, hk1⟩ : ∃ k1, k1 = k + 1 := ⟨_, rfl⟩
    rw [← hk1] at hdc
    have HDC := Lib.hid hdc
    have HK1 := Lib.hid hk1
    have hkk : k < k1 ∧ k1 ≤ k + 1 := by omega
    clear hdc hk1
    go_quiet (fail)
    revert nq
    intro n1
    go_wp2_with fail
    go_quiet (fail)
    obtain ⟨w2, he2⟩ : ∃ w2, (w1.drewN n1).drewN nq = w2 := ⟨_, rfl⟩
    have hw2 := (HW.out.drewN n1).drewN nq
    rw [he2] at hw2 ⊢
    clear he2 x0 x1 xf t0 t1 t2 tf0 tf1 tf2 hcc hks' hks''
    have x0 : w2.cell? ⟨X, 0, none⟩ = some (.string s) := hw2.cells.1
    have x1 : w2.cell? ⟨X, 1, none⟩ = some (.int .i64 (k : Nat)) := hw2.cells.2.1
    have xf : w2.frozen? ⟨X, 1, none⟩ = false := hw2.cells.2.2
    have t0 : w2.cell? ⟨w.heap.size, 0, none⟩ = some (.int .i64 0) := hw2.tok.1
    have t1 : w2.cell? ⟨w.heap.size, 1, none⟩ = some (.string ⟨#[]⟩) := hw2.tok.2.1
    have t2 : w2.cell? ⟨w.heap.size, 2, none⟩ = some (.int .i64 k) := hw2.tok.2.2.1
    have tf0 : w2.frozen? ⟨w.heap.size, 0, none⟩ = false := hw2.tok.2.2.2.1
    have tf1 : w2.frozen? ⟨w.heap.size, 1, none⟩ = false := hw2.tok.2.2.2.2.1
    have tf2 : w2.frozen? ⟨w.heap.size, 2, none⟩ = false := hw2.tok.2.2.2.2.2
    have hw4 := (hw2.setK k1 (.int .i64 ((k : Int) + 1)) (by rw [HK1.out]; go_num)).setKind 5
    obtain ⟨w4, he4⟩ : ∃ w4, (w2.setCell ⟨X, 1, none⟩ (.int .i64 ((k : Int) + 1))).setCell ⟨w.heap.size, 0, none⟩ (.int .i64 5) = w4 := ⟨_, rfl⟩
    rw [he4] at hw4
    have HW4 := Lib.hid hw4
    have y0 : w4.cell? ⟨w.heap.size, 0, none⟩ = some (.int .i64 5) := hw4.tok.1
    have y1 : w4.cell? ⟨w.heap.size, 1, none⟩ = some (.string ⟨#[]⟩) := hw4.tok.2.1
    have y2 : w4.cell? ⟨w.heap.size, 2, none⟩ = some (.int .i64 (k : Int)) := hw4.tok.2.2.1
    have yf0 : w4.frozen? ⟨w.heap.size, 0, none⟩ = false := hw4.tok.2.2.2.1
    have yf1 : w4.frozen? ⟨w.heap.size, 1, none⟩ = false := hw4.tok.2.2.2.2.1
    have yf2 : w4.frozen? ⟨w.heap.size, 2, none⟩ = false := hw4.tok.2.2.2.2.2
    have z0 : w4.cell? ⟨X, 0, none⟩ = some (.string s) := hw4.cells.1
    have z1 : w4.cell? ⟨X, 1, none⟩ = some (.int .i64 (k1 : Nat)) := hw4.cells.2.1
    have zf : w4.frozen? ⟨X, 1, none⟩ = false := hw4.cells.2.2
    clear hw2 hw4
    by_cases h32 : c.toNat = 32
    · have b32 : ((c.toNat : Int) == 32) = true := by simp; omega
      have HB := Lib.hid (show (s.data.toList.drop k1).dropWhile blankB = l by rw [← HL0.out, HDC.out, List.dropWhile_cons, if_pos (by simp [blankB]; omega)])
      have HW5 := Lib.hid (HW4.out.setKind 0)
      clear h32
      go_wp2_with fail
      go_step3
      refine HG.out _ _ _ ?_
      refine ⟨⟨⟨rfl, rfl, rfl, rfl⟩, rfl, rfl, k1, _, HW5.out, by omega, HB.out⟩, ?_⟩
      simp [mu, HW5.out.kOfW, rank]; omega
    by_cases h9 : c.toNat = 9
    · have b32 : ((c.toNat : Int) == 32) = false := by simp; omega
      have b9 : ((c.toNat : Int) == 9) = true := by simp; omega
      have HB := Lib.hid (show (s.data.toList.drop k1).dropWhile blankB = l by rw [← HL0.out, HDC.out, List.dropWhile_cons, if_pos (by simp [blankB]; omega)])
      have HW5 := Lib.hid (HW4.out.setKind 0)
      clear h9
      go_wp2_with fail
      go_step3
      refine HG.out _ _ _ ?_
      refine ⟨⟨⟨rfl, rfl, rfl, rfl⟩, rfl, rfl, k1, _, HW5.out, by omega, HB.out⟩, ?_⟩
      simp [mu, HW5.out.kOfW, rank]; omega
    by_cases h10 : c.toNat = 10
    · have b32 : ((c.toNat : Int) == 32) = false := by simp; omega
      have b9 : ((c.toNat : Int) == 9) = false := by simp; omega
      have b10 : ((c.toNat : Int) == 10) = true := by simp; omega
      have HB := Lib.hid (show (s.data.toList.drop k1).dropWhile blankB = l by rw [← HL0.out, HDC.out, List.dropWhile_cons, if_pos (by simp [blankB]; omega)])
      have HW5 := Lib.hid (HW4.out.setKind 0)
      clear h10
      go_wp2_with fail
      go_step3
      refine HG.out _ _ _ ?_
      refine ⟨⟨⟨rfl, rfl, rfl, rfl⟩, rfl, rfl, k1, _, HW5.out, by omega, HB.out⟩, ?_⟩
      simp [mu, HW5.out.kOfW, rank]; omega
    have b32 : ((c.toNat : Int) == 32) = false := by simp; omega
    have b9 : ((c.toNat : Int) == 9) = false := by simp; omega
    have b10 : ((c.toNat : Int) == 10) = false := by simp; omega
    have HL := Lib.hid (show l = s.data.toList.drop k by rw [← HL0.out, HDC.out, List.dropWhile_cons, if_neg (by simp [blankB]; omega)])
    have HONE := Lib.hid (show one l = one1 c (s.data.toList.drop k1) by rw [HL.out, HDC.out]; rfl)
    have HD1 := Lib.hid (HL.out.trans HDC.out)
    clear h32 h9 h10
    go_wp2_with fail
    clear he4 x0 x1 xf t0 t1 t2 tf0 tf1 tf2
    cases hlb : letterB c with
    | true =>
      have HN := Lib.hid (show one l = some (1, pre l ((s.data.toList.drop k1).dropWhile wordB), (s.data.toList.drop k1).dropWhile wordB) by rw [HONE.out, one1, if_pos hlb, ← HD1.out])
      have HLB := Lib.hid hlb
      clear hlb
      refine (letter _ _).mono ?_
      rw [HLB.out]
      rintro e w3 ⟨rfl, rfl⟩
      go_wp2_with fail
      go_step3
      refine HG.out _ _ _ ?_
      refine ⟨⟨⟨rfl, rfl, rfl, rfl⟩, k1, 5, k, HW4.out, by omega, by omega, HL.out, HN.out⟩, ?_⟩
      simp [mu, HW4.out.kOfW, rank]; omega
    | false =>
      have HLB := Lib.hid hlb
      cases hdb : digitB c with
      | true =>
        have HN := Lib.hid (show one l = numOne l (numR false (s.data.toList.drop k1)) by rw [HONE.out, one1, if_neg (by simp [hlb]), if_pos (by simp [hdb]), ← HD1.out]; rfl)
        have HDB := Lib.hid hdb
        clear hlb hdb
        refine (letter _ _).mono ?_
        rw [HLB.out]
        rintro e w3 ⟨rfl, rfl⟩
        go_wp2_with fail
        refine (digit _ _).mono ?_
        rw [HDB.out]
        rintro e w3 ⟨rfl, rfl⟩
        go_wp2_with fail
        go_step3
        refine HG.out _ _ _ ?_
        refine ⟨⟨⟨rfl, rfl, rfl, rfl⟩, k1, 5, k, false, rfl, HW4.out, by omega, by omega, HL.out, HN.out⟩, ?_⟩
        simp [mu, HW4.out.kOfW, rank]; omega
      | false =>
        have HDB := Lib.hid hdb
        by_cases h45 : c.toNat = 45
        · cases hm : digitB (hd (s.data.toList.drop k1)) with
          | true =>
            have HN := Lib.hid (show one l = numOne l (numR false (s.data.toList.drop k1)) by rw [HONE.out, one1, if_neg (by simp [hlb]), if_pos (by simp [minus, h45, hm]), ← HD1.out]; rfl)
            have HMD := Lib.hid hm
            have b45 : ((c.toNat : Int) == 45) = true := by simp; omega
            clear hlb hdb h45 hm
            refine (letter _ _).mono ?_
            rw [HLB.out]
            rintro e w3 ⟨rfl, rfl⟩
            go_wp2_with fail
            refine (digit _ _).mono ?_
            rw [HDB.out]
            rintro e w3 ⟨rfl, rfl⟩
            go_wp2_with fail
            refine (peek0 s X k1 _ hs (by omega) (by exact z0) (by exact z1)).mono ?_
            rintro e w3 ⟨rfl, m1, rfl⟩
            go_wp2_with fail
            refine (digit _ _).mono ?_
            rw [HMD.out]
            rintro e w3 ⟨rfl, rfl⟩
            go_wp2_with fail
            go_step3
            refine HG.out _ _ _ ?_
            refine ⟨⟨⟨rfl, rfl, rfl, rfl⟩, k1, 5, k, false, rfl, HW4.out.drewN m1, by omega, by omega, HL.out, HN.out⟩, ?_⟩
            simp [mu, (HW4.out.drewN m1).kOfW, rank]; omega
          | false =>
            have HN := Lib.hid (show one l = none by rw [HONE.out, one1, if_neg (by simp [hlb]), if_neg (by simp [minus, hdb, hm]), if_neg (by simp [quoteB, h45]), if_neg (by simp [cmpB, h45]), if_neg (by simp [signB, h45])])
            have HSB := Lib.hid (show signB c = false by simp [signB, h45])
            have HMD := Lib.hid hm
            have b45 : ((c.toNat : Int) == 45) = true := by simp; omega
            have b34 : ((c.toNat : Int) == 34) = false := by simp; omega
            have b39 : ((c.toNat : Int) == 39) = false := by simp; omega
            have b60 : ((c.toNat : Int) == 60) = false := by simp; omega
            have b62 : ((c.toNat : Int) == 62) = false := by simp; omega
            have b33 : ((c.toNat : Int) == 33) = false := by simp; omega
            clear hlb hdb h45 hm
            refine (letter _ _).mono ?_
            rw [HLB.out]
            rintro e w3 ⟨rfl, rfl⟩
            go_wp2_with fail
            refine (digit _ _).mono ?_
            rw [HDB.out]
            rintro e w3 ⟨rfl, rfl⟩
            go_wp2_with fail
            refine (peek0 s X k1 _ hs (by omega) (by exact z0) (by exact z1)).mono ?_
            rintro e w3 ⟨rfl, m1, rfl⟩
            go_wp2_with fail
            refine (digit _ _).mono ?_
            rw [HMD.out]
            rintro e w3 ⟨rfl, rfl⟩
            go_wp2_with fail
            refine (idx_no c HSB.out _).mono ?_
            rintro e w3 ⟨rfl, rfl⟩
            go_wp2_with fail
            refine HRET.out _ _ ?_
            exact ⟨⟨rfl, rfl, rfl, rfl⟩, _, _, _, _, _, rfl, (HW4.out.drewN m1).selfStore, by omega, nextV_none HL.out hks HN.out _ _ _⟩
        · have hmn : minus c (s.data.toList.drop k1) = false := by simp [minus, h45]
          have HONE2 := Lib.hid (show one l = (if quoteB c then quoOne c (quotedL c [] (s.data.toList.drop k1)) else if cmpB c && decide ((hd (s.data.toList.drop k1)).toNat = 61) then some (5, pre l ((s.data.toList.drop k1).drop 1), (s.data.toList.drop k1).drop 1) else if signB c then some (5, [c], s.data.toList.drop k1) else none) by rw [HONE.out, one1, if_neg (by simp [hlb]), if_neg (by simp [hdb, hmn]), ← HD1.out]; rfl)
          have b45 : ((c.toNat : Int) == 45) = false := by simp; omega
          clear hlb hdb hmn h45
          by_cases hq : quoteB c = true
          · have HN := Lib.hid (show one l = quoOne c (quotedL c [] (s.data.toList.drop k1)) by rw [HONE2.out, if_pos hq])
            by_cases h34 : c.toNat = 34
            · have HC := Lib.hid (show c.toNat ≠ 92 by omega)
              have b34 : ((c.toNat : Int) == 34) = true := by simp; omega
              clear h34 hq
              refine (letter _ _).mono ?_
              rw [HLB.out]
              rintro e w3 ⟨rfl, rfl⟩
              go_wp2_with fail
              refine (digit _ _).mono ?_
              rw [HDB.out]
              rintro e w3 ⟨rfl, rfl⟩
              go_wp2_with fail
              go_step3
              refine HG.out _ _ _ ?_
              refine ⟨⟨⟨rfl, rfl, rfl, rfl⟩, k1, 5, k, c, _, [], rfl, rfl, BOwn.nil _ _, Nat.zero_le _, HW4.out, by omega, by omega, HL.out, HC.out, HN.out⟩, ?_⟩
              simp [mu, HW4.out.kOfW, rank]; omega
            · have h39 : c.toNat = 39 := by simp [quoteB, h34] at hq; exact hq
              have HC := Lib.hid (show c.toNat ≠ 92 by omega)
              have b34 : ((c.toNat : Int) == 34) = false := by simp; omega
              have b39 : ((c.toNat : Int) == 39) = true := by simp; omega
              clear h34 h39 hq
              refine (letter _ _).mono ?_
              rw [HLB.out]
              rintro e w3 ⟨rfl, rfl⟩
              go_wp2_with fail
              refine (digit _ _).mono ?_
              rw [HDB.out]
              rintro e w3 ⟨rfl, rfl⟩
              go_wp2_with fail
              go_step3
              refine HG.out _ _ _ ?_
              refine ⟨⟨⟨rfl, rfl, rfl, rfl⟩, k1, 5, k, c, _, [], rfl, rfl, BOwn.nil _ _, Nat.zero_le _, HW4.out, by omega, by omega, HL.out, HC.out, HN.out⟩, ?_⟩
              simp [mu, HW4.out.kOfW, rank]; omega
          · have h34 : c.toNat ≠ 34 := by intro h; simp [quoteB, h] at hq
            have h39 : c.toNat ≠ 39 := by intro h; simp [quoteB, h] at hq
            have b34 : ((c.toNat : Int) == 34) = false := by simp; omega
            have b39 : ((c.toNat : Int) == 39) = false := by simp; omega
            have HONE3 := Lib.hid (HONE2.out.trans (if_neg hq))
            clear h34 h39 hq
            by_cases h60 : c.toNat = 60
            · have b60 : ((c.toNat : Int) == 60) = true := by simp; omega
              by_cases h61 : (hd (s.data.toList.drop k1)).toNat = 61
              · have hk1s : k1 < s.size := by
                  rcases Nat.lt_or_ge k1 s.size with h | h
                  · exact h
                  · rw [hd_out s k1 (by omega)] at h61; exact absurd h61 (by decide)
                have HN := Lib.hid (show one l = some (5, pre l (s.data.toList.drop (k1 + 1)), s.data.toList.drop (k1 + 1)) by rw [HONE3.out, if_pos (by simp [cmpB, h60, h61]), List.drop_drop])
                have b61 : (((hd (s.data.toList.drop k1)).toNat : Int) == 61) = true := by simp; omega
                clear h61 h60
                refine (letter _ _).mono ?_
                rw [HLB.out]
                rintro e w3 ⟨rfl, rfl⟩
                go_wp2_with fail
                refine (digit _ _).mono ?_
                rw [HDB.out]
                rintro e w3 ⟨rfl, rfl⟩
                go_wp2_with fail
                refine (peek0 s X k1 _ hs (by omega) (by exact z0) (by exact z1)).mono ?_
                rintro e w3 ⟨rfl, m1, rfl⟩
                go_wp2_with fail
                have HW5 := Lib.hid ((HW4.out.drewN m1).setK (k1 + 1) (.int .i64 ((k1 : Int) + 1)) (by go_num))
                go_step3
                refine HG.out _ _ _ ?_
                refine ⟨⟨⟨rfl, rfl, rfl, rfl⟩, k1 + 1, 5, k, HW5.out, by omega, by omega, HL.out, HN.out⟩, ?_⟩
                simp [mu, HW5.out.kOfW, rank]; omega
              · have b61 : (((hd (s.data.toList.drop k1)).toNat : Int) == 61) = false := by simp; omega
                have HSB := Lib.hid (show signB c = true by simp [signB, h60])
                have HN := Lib.hid (show one l = some (5, pre l (s.data.toList.drop k1), s.data.toList.drop k1) by rw [HONE3.out, if_neg (by simp [h61]), if_pos HSB.out, HD1.out, pre_one])
                clear h61 h60
                refine (letter _ _).mono ?_
                rw [HLB.out]
                rintro e w3 ⟨rfl, rfl⟩
                go_wp2_with fail
                refine (digit _ _).mono ?_
                rw [HDB.out]
                rintro e w3 ⟨rfl, rfl⟩
                go_wp2_with fail
                refine (peek0 s X k1 _ hs (by omega) (by exact z0) (by exact z1)).mono ?_
                rintro e w3 ⟨rfl, m1, rfl⟩
                go_wp2_with fail
                obtain ⟨n, hn, hcall⟩ := idx_yes c HSB.out
                have HCL := Lib.hid hcall
                clear hcall
                refine (HCL.out _).mono ?_
                rintro e w3 ⟨rfl, rfl⟩
                go_wp2_with fail
                go_step3
                refine HG.out _ _ _ ?_
                refine ⟨⟨⟨rfl, rfl, rfl, rfl⟩, k1, 5, k, HW4.out.drewN m1, by omega, by omega, HL.out, HN.out⟩, ?_⟩
                · simp [mu, (HW4.out.drewN m1).kOfW, rank]; omega
            by_cases h62 : c.toNat = 62
            · have b60 : ((c.toNat : Int) == 60) = false := by simp; omega
              have b62 : ((c.toNat : Int) == 62) = true := by simp; omega
              by_cases h61 : (hd (s.data.toList.drop k1)).toNat = 61
              · have hk1s : k1 < s.size := by
                  rcases Nat.lt_or_ge k1 s.size with h | h
                  · exact h
                  · rw [hd_out s k1 (by omega)] at h61; exact absurd h61 (by decide)
                have HN := Lib.hid (show one l = some (5, pre l (s.data.toList.drop (k1 + 1)), s.data.toList.drop (k1 + 1)) by rw [HONE3.out, if_pos (by simp [cmpB, h62, h61]), List.drop_drop])
                have b61 : (((hd (s.data.toList.drop k1)).toNat : Int) == 61) = true := by simp; omega
                clear h61 h62
                refine (letter _ _).mono ?_
                rw [HLB.out]
                rintro e w3 ⟨rfl, rfl⟩
                go_wp2_with fail
                refine (digit _ _).mono ?_
                rw [HDB.out]
                rintro e w3 ⟨rfl, rfl⟩
                go_wp2_with fail
                refine (peek0 s X k1 _ hs (by omega) (by exact z0) (by exact z1)).mono ?_
                rintro e w3 ⟨rfl, m1, rfl⟩
                go_wp2_with fail
                have HW5 := Lib.hid ((HW4.out.drewN m1).setK (k1 + 1) (.int .i64 ((k1 : Int) + 1)) (by go_num))
                go_step3
                refine HG.out _ _ _ ?_
                refine ⟨⟨⟨rfl, rfl, rfl, rfl⟩, k1 + 1, 5, k, HW5.out, by omega, by omega, HL.out, HN.out⟩, ?_⟩
                simp [mu, HW5.out.kOfW, rank]; omega
              · have b61 : (((hd (s.data.toList.drop k1)).toNat : Int) == 61) = false := by simp; omega
                have HSB := Lib.hid (show signB c = true by simp [signB, h62])
                have HN := Lib.hid (show one l = some (5, pre l (s.data.toList.drop k1), s.data.toList.drop k1) by rw [HONE3.out, if_neg (by simp [h61]), if_pos HSB.out, HD1.out, pre_one])
                clear h61 h62
                refine (letter _ _).mono ?_
                rw [HLB.out]
                rintro e w3 ⟨rfl, rfl⟩
                go_wp2_with fail
                refine (digit _ _).mono ?_
                rw [HDB.out]
                rintro e w3 ⟨rfl, rfl⟩
                go_wp2_with fail
                refine (peek0 s X k1 _ hs (by omega) (by exact z0) (by exact z1)).mono ?_
                rintro e w3 ⟨rfl, m1, rfl⟩
                go_wp2_with fail
                obtain ⟨n, hn, hcall⟩ := idx_yes c HSB.out
                have HCL := Lib.hid hcall
                clear hcall
                refine (HCL.out _).mono ?_
                rintro e w3 ⟨rfl, rfl⟩
                go_wp2_with fail
                go_step3
                refine HG.out _ _ _ ?_
                refine ⟨⟨⟨rfl, rfl, rfl, rfl⟩, k1, 5, k, HW4.out.drewN m1, by omega, by omega, HL.out, HN.out⟩, ?_⟩
                · simp [mu, (HW4.out.drewN m1).kOfW, rank]; omega
            by_cases h33 : c.toNat = 33
            · have b60 : ((c.toNat : Int) == 60) = false := by simp; omega
              have b62 : ((c.toNat : Int) == 62) = false := by simp; omega
              have b33 : ((c.toNat : Int) == 33) = true := by simp; omega
              by_cases h61 : (hd (s.data.toList.drop k1)).toNat = 61
              · have hk1s : k1 < s.size := by
                  rcases Nat.lt_or_ge k1 s.size with h | h
                  · exact h
                  · rw [hd_out s k1 (by omega)] at h61; exact absurd h61 (by decide)
                have HN := Lib.hid (show one l = some (5, pre l (s.data.toList.drop (k1 + 1)), s.data.toList.drop (k1 + 1)) by rw [HONE3.out, if_pos (by simp [cmpB, h33, h61]), List.drop_drop])
                have b61 : (((hd (s.data.toList.drop k1)).toNat : Int) == 61) = true := by simp; omega
                clear h61 h33
                refine (letter _ _).mono ?_
                rw [HLB.out]
                rintro e w3 ⟨rfl, rfl⟩
                go_wp2_with fail
                refine (digit _ _).mono ?_
                rw [HDB.out]
                rintro e w3 ⟨rfl, rfl⟩
                go_wp2_with fail
                refine (peek0 s X k1 _ hs (by omega) (by exact z0) (by exact z1)).mono ?_
                rintro e w3 ⟨rfl, m1, rfl⟩
                go_wp2_with fail
                have HW5 := Lib.hid ((HW4.out.drewN m1).setK (k1 + 1) (.int .i64 ((k1 : Int) + 1)) (by go_num))
                go_step3
                refine HG.out _ _ _ ?_
                refine ⟨⟨⟨rfl, rfl, rfl, rfl⟩, k1 + 1, 5, k, HW5.out, by omega, by omega, HL.out, HN.out⟩, ?_⟩
                simp [mu, HW5.out.kOfW, rank]; omega
              · have b61 : (((hd (s.data.toList.drop k1)).toNat : Int) == 61) = false := by simp; omega
                have HSB := Lib.hid (show signB c = false by simp [signB, h33])
                have HN := Lib.hid (show one l = none by rw [HONE3.out, if_neg (by simp [h61]), if_neg (by simp [HSB.out])])
                clear h61 h33
                refine (letter _ _).mono ?_
                rw [HLB.out]
                rintro e w3 ⟨rfl, rfl⟩
                go_wp2_with fail
                refine (digit _ _).mono ?_
                rw [HDB.out]
                rintro e w3 ⟨rfl, rfl⟩
                go_wp2_with fail
                refine (peek0 s X k1 _ hs (by omega) (by exact z0) (by exact z1)).mono ?_
                rintro e w3 ⟨rfl, m1, rfl⟩
                go_wp2_with fail
                refine (idx_no c HSB.out _).mono ?_
                rintro e w3 ⟨rfl, rfl⟩
                go_wp2_with fail
                refine HRET.out _ _ ?_
                exact ⟨⟨rfl, rfl, rfl, rfl⟩, _, _, _, _, _, rfl, (HW4.out.drewN m1).selfStore, by omega, nextV_none HL.out hks HN.out _ _ _⟩
            have b60 : ((c.toNat : Int) == 60) = false := by simp; omega
            have b62 : ((c.toNat : Int) == 62) = false := by simp; omega
            have b33 : ((c.toNat : Int) == 33) = false := by simp; omega
            have hcm : cmpB c = false := by simp [cmpB, h60, h62, h33]
            cases hsb : signB c with
            | true =>
              have HSB := Lib.hid hsb
              have HN := Lib.hid (show one l = some (5, pre l (s.data.toList.drop k1), s.data.toList.drop k1) by rw [HONE3.out, if_neg (by simp [hcm]), if_pos hsb, HD1.out, pre_one])
              clear h60 h62 h33 hcm hsb
              refine (letter _ _).mono ?_
              rw [HLB.out]
              rintro e w3 ⟨rfl, rfl⟩
              go_wp2_with fail
              refine (digit _ _).mono ?_
              rw [HDB.out]
              rintro e w3 ⟨rfl, rfl⟩
              go_wp2_with fail
              obtain ⟨n, hn, hcall⟩ := idx_yes c HSB.out
              have HCL := Lib.hid hcall
              clear hcall
              refine (HCL.out _).mono ?_
              rintro e w3 ⟨rfl, rfl⟩
              go_wp2_with fail
              go_step3
              refine HG.out _ _ _ ?_
              refine ⟨⟨⟨rfl, rfl, rfl, rfl⟩, k1, 5, k, HW4.out, by omega, by omega, HL.out, HN.out⟩, ?_⟩
              · simp [mu, HW4.out.kOfW, rank]; omega
            | false =>
              have HSB := Lib.hid hsb
              have HN := Lib.hid (show one l = none by rw [HONE3.out, if_neg (by simp [hcm]), if_neg (by simp [hsb])])
              clear h60 h62 h33 hcm hsb
              refine (letter _ _).mono ?_
              rw [HLB.out]
              rintro e w3 ⟨rfl, rfl⟩
              go_wp2_with fail
              refine (digit _ _).mono ?_
              rw [HDB.out]
              rintro e w3 ⟨rfl, rfl⟩
              go_wp2_with fail
              refine (idx_no c HSB.out _).mono ?_
              rintro e w3 ⟨rfl, rfl⟩
              go_wp2_with fail
              refine HRET.out _ _ ?_
              exact ⟨⟨rfl, rfl, rfl, rfl⟩, _, _, _, _, _, rfl, HW4.out.selfStore, by omega, nextV_none HL.out hks HN.out _ _ _⟩
  · have hks' : (s.size : Int) ≤ (k : Int) := by omega
    have HN := Lib.hid (show l = [] by rw [← HL0.out, List.drop_eq_nil_of_le (by simp; omega)]; rfl)
    go_quiet (fail)
    have HWR := Lib.hid (HW.out.drewN nq)
    go_wp2_with fail
    refine HRET.out _ _ ?_
    exact ⟨⟨rfl, rfl, rfl, rfl⟩, _, _, _, _, _, rfl, HWR.out.selfStore, by omega, by rw [HN.out]; exact ⟨rfl, rfl⟩⟩
set_option maxRecDepth 100000 in
set_option maxHeartbeats 1000000 in
theorem pass0 (s : ByteArray) (l : List UInt8) (X : Nat) (w : World) (hs : s.size ≤ 1048576) (Q : Exit → Act → World → Prop) (hret : ∀ a' w', Ret s l X w a' w' → Q .ret a' w') (rest : Code) (hr : (Tryz.f41.body.bind firstScope).bind (findLabel · 0) = some rest)
    (a : Act) (wr : World) (hJ : J0 s l X w a wr) : rest.wp Tryz.prog (Jumps (fun l' a' w' => JL s l X w l' a' w' ∧ mu s X l' a' w' < mu s X 0 a wr) Q) a wr := by
  change some _ = some rest at hr
  cases hr
  exact wp_seq (wp_skip (beginR s l X w hs _ Q hret _ rfl a wr (fun _ _ _ h => h) hJ))
end Go.Proofs.YtigicmnngppipaaGreatDoor.Lx
/- The scanner's next token. Condition: the text's length. -/
namespace Go.Proofs.YtigicmnngppipaaGreatDoor.Lx
open Go.RowKit
def NextPost (s : ByteArray) (X k : Nat) (w : World) (e : Ending) (w' : World) : Prop :=
  ∃ kind text at_ ok k', e = .returned (.tuple #[.agg #[.int .i64 kind, .string text, .int .i64 at_], .bool ok]) ∧ w'.heap[X]? = some (.cells #[.string s, .int .i64 ((k' : Nat) : Int)] 95 (0, 0)) ∧ w.grownBy w' (some X) ∧ k' ≤ s.size ∧
    NextV ((s.data.toList.drop k).dropWhile blankB) s.size kind text at_ ok k'
theorem results15 (tmps : Array Value) (w : World) (B : Nat) (x y z : Value) (hb : tmps.getD 2 undef = .pointer (some ⟨B, 0, none⟩)) (hx : w.cell? ⟨B, 0, none⟩ = some x) (hy : w.cell? ⟨B, 1, none⟩ = some y) (hz : w.cell? ⟨B, 2, none⟩ = some z) :
    (results Tryz.f41 tmps).run Tryz.prog w = .ok (.tuple #[.agg #[x, y, z], tmps.getD 3 undef]) w := by
  have hb' : tmps[2]?.getD undef = .pointer (some ⟨B, 0, none⟩) := by simpa using hb
  simp [results, hb', hx, hy, hz, go_sem]
set_option maxRecDepth 100000 in
set_option maxHeartbeats 1000000 in
theorem next (s : ByteArray) (X k : Nat) (w : World) (hs : s.size ≤ 1048576) (hk : k ≤ s.size) (hX : w.heap[X]? = some (.cells #[.string s, .int .i64 (k : Int)] 95 (0, 0))) :
    Calls Tryz.prog 41 #[.pointer (some ⟨X, 0, none⟩)] w (NextPost s X k w) := by
  have hXlt : X < w.heap.size := by
    rcases Nat.lt_or_ge X w.heap.size with h' | h'
    · exact h'
    · simp [Array.getElem?_eq_none h'] at hX
  have hw0 : Wd s X w (w.alloc (.cells #[.int .i64 0, .string ⟨#[]⟩, .int .i64 0] 96)) k 0 ⟨#[]⟩ 0 :=
    ⟨(Below.heap_alloc w _ X hXlt).trans hX, heap_alloc_new w _, hXlt, World.grownBy_alloc w _ _⟩
  have HW0 := Lib.hid hw0
  have hret : ∀ a' w', Ret s ((s.data.toList.drop k).dropWhile blankB) X w a' w' → bodyPost Tryz.prog Tryz.f41 (NextPost s X k w) .ret a' w' := by
    rintro a' w' ⟨⟨hd, hz, h0, h2⟩, kind, text, at_, ok, k', h3, hw, hk', hv⟩
    refine bodyPost_ret (results15 a'.tmps w' w.heap.size _ _ _ h2 hw.tok.1 hw.tok.2.1 hw.tok.2.2.1) hd ?_
    exact ⟨kind, text, at_, ok, k', by rw [h3], hw.1, hw.2.2.2, hk', hv⟩
  have HRET := Lib.hid hret
  clear hw0 hret hX
  go_enter Tryz.func41, Tryz.ntmps41
  go_wp2
  refine wp_scope_labels (JL s ((s.data.toList.drop k).dropWhile blankB) X w) (mu s X) ?_ ?_
  · go_wp2_with fail
    go_step3
    rename_i hK
    refine hK _ _ ?_
    refine beginR s ((s.data.toList.drop k).dropWhile blankB) X w hs _ _ HRET.out _ rfl _ _ (fun _ _ _ h => h.1) ?_
    exact ⟨⟨rfl, rfl, rfl, rfl⟩, rfl, rfl, k, 0, HW0.out, hk, rfl⟩
  · intro l' a' w' hJ
    match l', hJ with
    | 0, hJ => exact ⟨_, rfl, pass0 s _ X w hs _ HRET.out _ rfl a' w' hJ⟩
    | 1, hJ => exact ⟨_, rfl, pass1 s _ X w hs _ HRET.out _ rfl a' w' hJ⟩
    | 2, hJ => exact ⟨_, rfl, pass2 s _ X w hs _ HRET.out _ rfl a' w' hJ⟩
    | 3, hJ => exact ⟨_, rfl, pass3 s _ X w hs _ HRET.out _ rfl a' w' hJ⟩
    | 4, hJ => exact ⟨_, rfl, pass4 s _ X w hs _ HRET.out _ rfl a' w' hJ⟩
    | n + 5, hJ => exact hJ.elim
end Go.Proofs.YtigicmnngppipaaGreatDoor.Lx
