/- Several texts of this proof, laid together. Conditions: as each says. -/
import Derived.Test.YtigicmnngppipaaGreatDoorFAI
import Derived.Deep.Draws
import Derived.Deep.QuietTactic
import Derived.Laws.IdiomStrings
import Derived.IntWalk
import Derived.Test.YtigicmnngppipaaGreatDoorFAF
/- A text that begins with a digit, perhaps behind a sign, is no special name. No condition. -/
namespace Go.Proofs.YtigicmnngppipaaGreatDoor
open Go.RowKit
set_option maxRecDepth 100000
theorem prefix237 (s : ByteArray) (c : UInt8) (h0 : 0 < s.size) (hc : s[0] = c) (hd : c.toNat ≤ 57) (w : World) :
    Calls Tryz.prog 258 #[.string s, .string ⟨#[105, 110, 102, 105, 110, 105, 116, 121]⟩] w fun e w' => e = .returned (.int .i64 0) ∧ w = w' := by
  obtain ⟨n, hn⟩ : ∃ n : Nat, min 8 s.size = n := ⟨_, rfl⟩
  have hn1 : (0 : Int) < (n : Int) := by omega
  have hmin : min (8 : Int) (s.size : Int) = (n : Int) := by omega
  have hc65 : ¬(65 : Int) ≤ (c.toNat : Int) := by omega
  have hne : ((c.toNat : Int) != 105) = true := by simp; omega
  have hx : ((ByteArray.mk #[105, 110, 102, 105, 110, 105, 116, 121])[0]'(by decide)).toNat = 105 := by rfl
  have h0i : (0 : Int) < (s.size : Int) := by omega
  clear hd
  go_enter Tryz.func258, Tryz.ntmps258
  go_wp2
  go_loopw [6] (fun i wr => i = .int .i64 0 ∧ w = wr) (fun _ _ => 0)
  case atStart => exact ⟨rfl, rfl⟩
  case round =>
    obtain ⟨rfl, rfl⟩ := hrel
    go_wp2
    go_ret
    exact ⟨rfl, rfl⟩
/-- The text behind a sign. -/
def Digit0 (s : ByteArray) : Prop := ∃ (h : 0 < s.size), 48 ≤ s[0].toNat ∧ s[0].toNat ≤ 57
theorem special204_digit (s : ByteArray) (hd : Digit0 s) (w : World) :
    Calls Tryz.prog 245 #[.string s] w fun e w' => e = .returned (.tuple #[.float .f64 0, .int .i64 0, .bool false]) ∧ w = w' := by
  obtain ⟨h0, hd1, hd2⟩ := hd
  obtain ⟨c, hc⟩ : ∃ c, s[0] = c := ⟨_, rfl⟩
  rw [hc] at hd1 hd2
  have e1 : ((c.toNat : Int) == 43) = false := by rw [beq_eq_false_iff_ne]; omega
  have e2 : ((c.toNat : Int) == 45) = false := by rw [beq_eq_false_iff_ne]; omega
  have e3 : ((c.toNat : Int) == 105) = false := by rw [beq_eq_false_iff_ne]; omega
  have e4 : ((c.toNat : Int) == 73) = false := by rw [beq_eq_false_iff_ne]; omega
  have e5 : ((c.toNat : Int) == 110) = false := by rw [beq_eq_false_iff_ne]; omega
  have e6 : ((c.toNat : Int) == 78) = false := by rw [beq_eq_false_iff_ne]; omega
  have h0i : ((s.size : Int) == 0) = false := by rw [beq_eq_false_iff_ne]; omega
  have h0j : (0 : Int) < (s.size : Int) := by omega
  clear hd1 hd2
  go_enter Tryz.func245, Tryz.ntmps245
  go_wp2
  go_ret3
  exact ⟨rfl, rfl⟩
def Digit1 (s : ByteArray) : Prop := ∃ (h : 1 < s.size), s[0].toNat = 45 ∧ 48 ≤ s[1].toNat ∧ s[1].toNat ≤ 57
theorem special204_minus (s : ByteArray) (hd : Digit1 s) (w : World) :
    Calls Tryz.prog 245 #[.string s] w fun e w' => e = .returned (.tuple #[.float .f64 0, .int .i64 0, .bool false]) ∧ w = w' := by
  obtain ⟨h0, hm, hd1, hd2⟩ := hd
  obtain ⟨c, hc⟩ : ∃ c, s[0] = c := ⟨_, rfl⟩
  obtain ⟨d, hd⟩ : ∃ d, s[1] = d := ⟨_, rfl⟩
  rw [hc] at hm
  rw [hd] at hd1 hd2
  have e1 : ((c.toNat : Int) == 43) = false := by rw [beq_eq_false_iff_ne]; omega
  have e2 : ((c.toNat : Int) == 45) = true := by rw [beq_iff_eq]; omega
  have h0i : ((s.size : Int) == 0) = false := by rw [beq_eq_false_iff_ne]; omega
  have h0j : (0 : Int) < (s.size : Int) := by omega
  have h1j : (1 : Int) ≤ (s.size : Int) := by omega
  have hp := fun w => prefix237 (s.extract 1 s.size) d (by rw [ByteArray.size_extract]; omega) (by rw [ByteArray.getElem_extract]; exact hd) (by omega) w
  have HP := Lib.hid hp
  clear hd1 hd2 hm hp
  go_enter Tryz.func245, Tryz.ntmps245
  go_wp2_with fail
  refine (HP.out _).mono ?_
  rintro e w' ⟨rfl, rfl⟩
  go_wp2_with fail
  go_ret3
  exact ⟨rfl, rfl⟩
end Go.Proofs.YtigicmnngppipaaGreatDoor
/- The bytes of a text that is read as a float; 'lower'. No condition. -/
namespace Go.Proofs.YtigicmnngppipaaGreatDoor
open Go.RowKit
set_option maxRecDepth 100000
def lowI (c : UInt8) : Int := bits BinOp.or IntKind.u8 (c.toNat : Int) 32
theorem lower200 (c : UInt8) (w : World) : Calls Tryz.prog 202 #[.int .u8 (c.toNat : Int)] w fun e w' => e = .returned (.int .u8 (lowI c)) ∧ w = w' := by
  unfold lowI
  go_enter Tryz.func202, Tryz.ntmps202
  go_wp2
  go_ret
  exact ⟨rfl, rfl⟩
theorem lowI_all : ∀ n : Fin 256, (n.val ≠ 88 → n.val ≠ 120 → bits BinOp.or IntKind.u8 (n.val : Int) 32 ≠ 120) ∧ (n.val = 101 ∨ n.val = 69 → bits BinOp.or IntKind.u8 (n.val : Int) 32 = 101) := by decide +kernel
theorem lowI_x (c : UInt8) (h1 : c.toNat ≠ 88) (h2 : c.toNat ≠ 120) : lowI c ≠ 120 := (lowI_all ⟨c.toNat, c.toNat_lt⟩).1 h1 h2
theorem lowI_e (c : UInt8) (h : c.toNat = 101 ∨ c.toNat = 69) : lowI c = 101 := (lowI_all ⟨c.toNat, c.toNat_lt⟩).2 h
/-- A byte that may stand in such a text. -/
def okB (c : UInt8) : Prop := (48 ≤ c.toNat ∧ c.toNat ≤ 57) ∨ c.toNat = 46 ∨ c.toNat = 101 ∨ c.toNat = 69 ∨ c.toNat = 43 ∨ c.toNat = 45
theorem isDig_iff (c : UInt8) : PF.isDig c = true ↔ 48 ≤ c.toNat ∧ c.toNat ≤ 57 := by simp [PF.isDig]
theorem okD_all {l : List UInt8} (h : PF.okD l = true) : l ≠ [] ∧ ∀ c ∈ l, 48 ≤ c.toNat ∧ c.toNat ≤ 57 := by
  unfold PF.okD at h
  simp only [Bool.and_eq_true, Bool.not_eq_true', List.all_eq_true] at h
  exact ⟨by intro e; rw [e] at h; simp at h, fun c hc => (isDig_iff c).1 (h.2 c hc)⟩
theorem okX_all {l : List UInt8} (h : PF.okX l = true) : ∀ c ∈ l, okB c := by
  cases l with
  | nil => intro c hc; cases hc
  | cons a r =>
    have h : (if a = 43 ∨ a = 45 then PF.okD r else PF.okD (a :: r)) = true := h
    split at h
    · rename_i ha
      intro c hc
      rcases List.mem_cons.1 hc with rfl | hc
      · rcases ha with rfl | rfl <;> simp [okB]
      · exact .inl ((okD_all h).2 c hc)
    · intro c hc
      exact .inl ((okD_all h).2 c hc)
theorem okM_all : ∀ {l : List UInt8} {dot saw : Bool}, PF.okM dot saw l = true → ∀ c ∈ l, okB c
  | [], _, _, _, c, hc => by cases hc
  | a :: r, dot, saw, h, c, hc => by
    unfold PF.okM at h
    split at h
    · rename_i hd
      rcases List.mem_cons.1 hc with rfl | hc
      · exact .inl ((isDig_iff c).1 hd)
      · exact okM_all h c hc
    · split at h
      · rename_i ha
        simp only [Bool.and_eq_true] at h
        rcases List.mem_cons.1 hc with rfl | hc
        · subst ha; simp [okB]
        · exact okM_all h.2 c hc
      · simp only [Bool.and_eq_true, Bool.or_eq_true, decide_eq_true_eq] at h
        rcases List.mem_cons.1 hc with rfl | hc
        · rcases h.1 with rfl | rfl <;> simp [okB]
        · exact okX_all h.2.2 c hc
theorem okM_head {a : UInt8} {r : List UInt8} (h : PF.okM false false (a :: r) = true) : 48 ≤ a.toNat ∧ a.toNat ≤ 57 := by
  unfold PF.okM at h
  split at h
  · rename_i hd; exact (isDig_iff a).1 hd
  · split at h <;> simp at h
end Go.Proofs.YtigicmnngppipaaGreatDoor
/- The slow way of ParseFloat, in plain Lean: decimals, shifts, bits. No condition. -/
namespace PF
/-- Digits as a number. -/
def val (ds : List Nat) : Nat := ds.foldl (fun n d => n * 10 + d) 0
/-- A number's digits. -/
def dgs (n : Nat) : List Nat := if n = 0 then [] else dgs (n / 10) ++ [n % 10]
termination_by n
decreasing_by omega
structure Dec where
  ds : List Nat
  dp : Int
  tr : Bool
def trimL (ds : List Nat) : List Nat := (ds.reverse.dropWhile (· == 0)).reverse
def Dec.trim (a : Dec) : Dec := ⟨trimL a.ds, (if trimL a.ds = [] then 0 else a.dp), a.tr⟩
/-- The first digits of a shift to the right: what is left of them, the number, how many were read. -/
def rsz (k : Nat) : Nat → Nat → Nat → Nat × Nat
  | 0, n, r => (n, r)
  | f + 1, n, r => if n / 2 ^ k = 0 then rsz k f (n * 10) (r + 1) else (n, r)
def rs1 (k : Nat) : List Nat → Nat → Nat → List Nat × Nat × Nat
  | [], n, r => ([], (rsz k (k + 1) n r).1, (rsz k (k + 1) n r).2)
  | d :: t, n, r => if n / 2 ^ k = 0 then rs1 k t (n * 10 + d) (r + 1) else (d :: t, n, r)
/-- A digit up, a digit down. -/
def rs2 (k : Nat) : List Nat → Nat → List Nat × Nat
  | [], n => ([], n)
  | c :: t, n => (n / 2 ^ k :: (rs2 k t (n % 2 ^ k * 10 + c)).1, (rs2 k t (n % 2 ^ k * 10 + c)).2)
/-- What is left; w digits are there. -/
def rs3 (k : Nat) : Nat → Nat → Nat → List Nat × Bool
  | 0, _, _ => ([], false)
  | f + 1, n, w => if n = 0 then ([], false) else if w < 800 then (n / 2 ^ k :: (rs3 k f (n % 2 ^ k * 10) (w + 1)).1, (rs3 k f (n % 2 ^ k * 10) (w + 1)).2) else ((rs3 k f (n % 2 ^ k * 10) w).1, decide (0 < n / 2 ^ k) || (rs3 k f (n % 2 ^ k * 10) w).2)
/-- A shift to the right by at most 60. -/
def Dec.rsh (a : Dec) (k : Nat) : Dec :=
  let p := rs1 k a.ds 0 0
  let q := rs2 k p.1 p.2.1
  let t := rs3 k (k + 2) q.2 q.1.length
  Dec.trim ⟨q.1 ++ t.1, a.dp - ((p.2.2 : Int) - 1), a.tr || t.2⟩
/-- A shift to the left by at most 60. -/
def Dec.lsh (a : Dec) (k : Nat) : Dec :=
  let l := dgs (val a.ds * 2 ^ k)
  Dec.trim ⟨l.take 800, a.dp + ((l.length : Int) - a.ds.length), a.tr || (l.drop 800).any (· ≠ 0)⟩
/-- A shift to the right by any number. -/
def Dec.rshN (a : Dec) (k : Nat) : Dec := if 60 < k then (a.rsh 60).rshN (k - 60) else a.rsh k
termination_by k
def powtab (i : Nat) : Nat := match i with | 0 => 1 | 1 => 3 | 2 => 6 | 3 => 9 | 4 => 13 | 5 => 16 | 6 => 19 | 7 => 23 | 8 => 26 | _ => 27
def d0 (a : Dec) : Nat := a.ds.headD 0
/-- Down to below one. -/
def fb1 : Nat → Dec → Int → Dec × Int
  | 0, a, e => (a, e)
  | f + 1, a, e => if 0 < a.dp then fb1 f (a.rsh (powtab a.dp.toNat)) (e + powtab a.dp.toNat) else (a, e)
/-- Up to a half at least. -/
def fb2 : Nat → Dec → Int → Dec × Int
  | 0, a, e => (a, e)
  | f + 1, a, e => if a.dp < 0 ∨ (a.dp = 0 ∧ d0 a < 5) then fb2 f (a.lsh (powtab (-a.dp).toNat)) (e - powtab (-a.dp).toNat) else (a, e)
/-- Is to be rounded up, cut at n digits. -/
def upB (a : Dec) (n : Int) : Bool :=
  if n < 0 ∨ (a.ds.length : Int) ≤ n then false
  else
    let i := n.toNat
    if a.ds.getD i 0 = 5 ∧ i + 1 = a.ds.length then a.tr || (decide (0 < i) && decide (a.ds.getD (i - 1) 0 % 2 ≠ 0))
    else decide (5 ≤ a.ds.getD i 0)
/-- The whole part, rounded; modulo 2^64. -/
def rint (a : Dec) : Nat :=
  if 20 < a.dp then 2 ^ 64 - 1
  else ((val (a.ds.take a.dp.toNat) * 10 ^ (a.dp.toNat - a.ds.length)) % 2 ^ 64 + (upB a a.dp).toNat) % 2 ^ 64
/-- The bits of a decimal, and whether it is too great. -/
def fbits (neg : Bool) (a : Dec) : Nat × Bool :=
  let s := if neg then 2 ^ 63 else 0
  if a.ds = [] then (s, false)
  else if 310 < a.dp then (2047 * 2 ^ 52 + s, true)
  else if a.dp < -330 then (s, false)
  else
    let p := fb1 5000 a 0
    let q := fb2 5000 p.1 p.2
    let e := q.2 - 1
    let b := if e < -1022 then (q.1.rshN (-1022 - e).toNat, (-1022 : Int)) else (q.1, e)
    if 2047 ≤ b.2 + 1023 then (2047 * 2 ^ 52 + s, true)
    else
      let m := rint (b.1.lsh 53)
      let c := if m = 2 ^ 53 then (2 ^ 52, b.2 + 1) else (m, b.2)
      if m = 2 ^ 53 ∧ 2047 ≤ b.2 + 1 + 1023 then (2047 * 2 ^ 52 + s, true)
      else
        let ex := if c.1 / 2 ^ 52 % 2 = 0 then -1023 else c.2
        (c.1 % 2 ^ 52 + ((ex + 1023).toNat % 2048) * 2 ^ 52 + s, false)
end PF
/- The slow way's shift to the left: how many digits it brings. No condition. -/
namespace PF
theorem val_foldl (ds : List Nat) (n : Nat) : ds.foldl (fun n d => n * 10 + d) n = n * 10 ^ ds.length + val ds := by
  induction ds generalizing n with
  | nil => simp [val]
  | cons d t ih =>
    simp only [List.foldl_cons, List.length_cons, val]
    rw [ih, ih (0 * 10 + d), Nat.pow_succ]
    simp only [Nat.zero_mul, Nat.zero_add, Nat.add_mul]
    have : n * 10 * 10 ^ t.length = n * (10 ^ t.length * 10) := by rw [Nat.mul_assoc, Nat.mul_comm 10]
    omega
theorem val_cons (d : Nat) (t : List Nat) : val (d :: t) = d * 10 ^ t.length + val t := by
  have := val_foldl t d
  unfold val at *
  simp only [List.foldl_cons, Nat.zero_mul, Nat.zero_add]
  exact this
theorem val_append (a b : List Nat) : val (a ++ b) = val a * 10 ^ b.length + val b := by
  have := val_foldl b (val a)
  unfold val at *
  rw [List.foldl_append]
  exact this
theorem val_lt {ds : List Nat} (h : ∀ d ∈ ds, d ≤ 9) : val ds < 10 ^ ds.length := by
  induction ds with
  | nil => simp [val]
  | cons d t ih =>
    have h1 := ih fun x hx => h x (List.mem_cons_of_mem _ hx)
    have h2 := h d (List.mem_cons_self ..)
    rw [val_cons, List.length_cons, Nat.pow_succ]
    have : d * 10 ^ t.length ≤ 9 * 10 ^ t.length := Nat.mul_le_mul_right _ h2
    omega
theorem val_ge {d : Nat} {t : List Nat} (h : d ≠ 0) : 10 ^ t.length ≤ val (d :: t) := by
  rw [val_cons]
  have : 1 * 10 ^ t.length ≤ d * 10 ^ t.length := Nat.mul_le_mul_right _ (by omega)
  omega
/-- Is the first list less, where the second is laid beside it? -/
def plt : List Nat → List Nat → Bool
  | _, [] => false
  | [], _ :: _ => true
  | b :: bs, s :: ss => if b = s then plt bs ss else decide (b < s)
theorem val_pos : ∀ (s : Nat) (ss : List Nat), (s :: ss).getLast? ≠ some 0 → 0 < val (s :: ss)
  | s, [], h => by simp [val] at *; omega
  | s, a :: t, h => by
    have := val_pos a t (by simpa using h)
    rw [val_cons]
    omega
theorem plt_iff : ∀ (b s : List Nat), (∀ d ∈ b, d ≤ 9) → (∀ d ∈ s, d ≤ 9) → (s ≠ [] → s.getLast? ≠ some 0) → (plt b s = true ↔ val b * 10 ^ s.length < val s * 10 ^ b.length)
  | b, [], hb, _, _ => by
    simp [plt, val]
  | [], s :: ss, _, _, hl => by
    simp only [plt, true_iff, List.length_nil, Nat.pow_zero, Nat.mul_one]
    simp only [val, List.foldl_nil, Nat.zero_mul]
    show 0 < val (s :: ss)
    exact val_pos s ss (hl (by simp))
  | b :: bs, s :: ss, hb, hs, hl => by
    have b1 := val_lt fun x hx => hb x (List.mem_cons_of_mem _ hx)
    have s1 := val_lt fun x hx => hs x (List.mem_cons_of_mem _ hx)
    have hB := Nat.two_pow_pos 1
    rw [val_cons, val_cons, List.length_cons, List.length_cons, Nat.pow_succ, Nat.pow_succ]
    have pB : 0 < 10 ^ bs.length := Nat.pow_pos (by omega)
    have pS : 0 < 10 ^ ss.length := Nat.pow_pos (by omega)
    unfold plt
    by_cases e : b = s
    · subst e
      rw [if_pos rfl]
      have hl' : ss ≠ [] → ss.getLast? ≠ some 0 := by
        intro hne
        have := hl (by simp)
        cases ss with
        | nil => exact absurd rfl hne
        | cons a t => simpa using this
      have ih := plt_iff bs ss (fun x hx => hb x (List.mem_cons_of_mem _ hx)) (fun x hx => hs x (List.mem_cons_of_mem _ hx)) hl'
      rw [ih]
      generalize 10 ^ bs.length = B at *
      generalize 10 ^ ss.length = S at *
      have e1 : (b * B + val bs) * (S * 10) = 10 * (b * B * S + val bs * S) := by rw [Nat.add_mul, Nat.mul_comm S 10, ← Nat.mul_assoc, ← Nat.mul_assoc, Nat.mul_comm (b * B) 10, Nat.mul_comm (val bs) 10, Nat.mul_assoc, Nat.mul_assoc 10 (val bs), ← Nat.mul_add]
      have e2 : (b * S + val ss) * (B * 10) = 10 * (b * S * B + val ss * B) := by rw [Nat.add_mul, Nat.mul_comm B 10, ← Nat.mul_assoc, ← Nat.mul_assoc, Nat.mul_comm (b * S) 10, Nat.mul_comm (val ss) 10, Nat.mul_assoc, Nat.mul_assoc 10 (val ss), ← Nat.mul_add]
      have e3 : b * B * S = b * S * B := by rw [Nat.mul_assoc, Nat.mul_assoc, Nat.mul_comm B S]
      rw [e1, e2, e3]
      constructor <;> intro h <;> omega
    · rw [if_neg e]
      generalize hBv : 10 ^ bs.length = B at *
      generalize hSv : 10 ^ ss.length = S at *
      simp only [decide_eq_true_eq]
      have key (x y X Y u v : Nat) (hxy : x < y) (hu : u < X) (hv : v < Y) : (x * X + u) * (Y * 10) < (y * Y + v) * (X * 10) := by
        have h1 : x * X + u < (x + 1) * X := by rw [Nat.add_mul]; omega
        have h2 : (x * X + u) * (Y * 10) < (x + 1) * X * (Y * 10) := Nat.mul_lt_mul_of_pos_right h1 (by omega)
        have h3 : (x + 1) * X * (Y * 10) ≤ y * X * (Y * 10) := Nat.mul_le_mul_right _ (Nat.mul_le_mul_right _ hxy)
        have h4 : y * X * (Y * 10) = y * Y * (X * 10) := by
          rw [Nat.mul_assoc, Nat.mul_assoc, Nat.mul_left_comm X Y]
        have h5 : y * Y * (X * 10) ≤ (y * Y + v) * (X * 10) := Nat.mul_le_mul_right _ (by omega)
        omega
      constructor
      · intro h
        exact key b s B S (val bs) (val ss) h b1 s1
      · intro h
        by_cases h2 : b < s
        · exact h2
        · have := key s b S B (val ss) (val bs) (by omega) s1 b1
          omega
/-- The number of digits of a product by a power of two. -/
theorem grow_bounds {v L k C K : Nat} (h0 : 10 ^ (L - 1) ≤ v) (h1 : v < 10 ^ L) (hL : 1 ≤ L) (hC : C ≤ k) (hlo : 10 ^ (C - 1) ≤ 5 ^ k) (hhi : 5 ^ k < 10 ^ C) (hC1 : 1 ≤ C)
    (hK : K = L + (k - C + 1) - (if v * 10 ^ C < 5 ^ k * 10 ^ L then 1 else 0)) : 10 ^ (K - 1) ≤ v * 2 ^ k ∧ v * 2 ^ k < 10 ^ K := by
  have e10 : 5 ^ k * 2 ^ k = 10 ^ k := by rw [← Nat.mul_pow]
  have p5 : 0 < 5 ^ k := Nat.pow_pos (by omega)
  have p2 : 0 < 2 ^ k := Nat.pow_pos (by omega)
  split at hK
  · rename_i hp
    have hK : K = L + (k - C) := by omega
    constructor
    · -- v * 2^k ≥ 10^(L-1) * 2^k > 10^(L-1+k-C)
      have a1 : 10 ^ (k - C) * 10 ^ C < 2 ^ k * 10 ^ C := by
        rw [← Nat.pow_add, show k - C + C = k by omega, ← e10, Nat.mul_comm]
        exact Nat.mul_lt_mul_of_pos_left hhi p2
      have a2 : 10 ^ (k - C) < 2 ^ k := Nat.lt_of_mul_lt_mul_right a1
      calc 10 ^ (K - 1) = 10 ^ (L - 1) * 10 ^ (k - C) := by rw [← Nat.pow_add]; congr 1; omega
        _ ≤ v * 2 ^ k := Nat.mul_le_mul h0 (by omega)
    · have a1 : v * 10 ^ C * 2 ^ k < 5 ^ k * 10 ^ L * 2 ^ k := Nat.mul_lt_mul_of_pos_right hp p2
      have a2 : 5 ^ k * 10 ^ L * 2 ^ k = 10 ^ K * 10 ^ C := by
        rw [Nat.mul_right_comm, e10, ← Nat.pow_add, ← Nat.pow_add]; congr 1; omega
      rw [a2, Nat.mul_right_comm] at a1
      exact Nat.lt_of_mul_lt_mul_right a1
  · rename_i hp
    have hK : K = L + (k - C) + 1 := by omega
    constructor
    · have a1 : 5 ^ k * 10 ^ L * 2 ^ k ≤ v * 10 ^ C * 2 ^ k := Nat.mul_le_mul_right _ (by omega)
      have a2 : 5 ^ k * 10 ^ L * 2 ^ k = 10 ^ (K - 1) * 10 ^ C := by
        rw [Nat.mul_right_comm, e10, ← Nat.pow_add, ← Nat.pow_add]; congr 1; omega
      rw [a2, Nat.mul_right_comm] at a1
      exact Nat.le_of_mul_le_mul_right a1 (Nat.pow_pos (by omega))
    · have a1 : 2 ^ k * 10 ^ (C - 1) ≤ 10 ^ (k - C + 1) * 10 ^ (C - 1) := by
        rw [← Nat.pow_add, show k - C + 1 + (C - 1) = k by omega, ← e10, Nat.mul_comm (5 ^ k)]
        exact Nat.mul_le_mul_left _ hlo
      have a2 : 2 ^ k ≤ 10 ^ (k - C + 1) := Nat.le_of_mul_le_mul_right a1 (Nat.pow_pos (by omega))
      calc v * 2 ^ k < 10 ^ L * 2 ^ k := Nat.mul_lt_mul_of_pos_right h1 p2
        _ ≤ 10 ^ L * 10 ^ (k - C + 1) := Nat.mul_le_mul_left _ a2
        _ = 10 ^ K := by rw [← Nat.pow_add]; congr 1; omega
end PF
/- Decimals under shifts: what stays true of them, and that the loops end. No condition. -/
namespace PF
theorem dgs_pos {n : Nat} (h : n ≠ 0) : dgs n = dgs (n / 10) ++ [n % 10] := by rw [dgs, if_neg h]
theorem dgs_zero : dgs 0 = [] := by rw [dgs, if_pos rfl]
theorem dgs_len : ∀ (n : Nat), n ≠ 0 → 10 ^ ((dgs n).length - 1) ≤ n ∧ n < 10 ^ (dgs n).length ∧ 1 ≤ (dgs n).length := by
  intro n
  induction n using Nat.strongRecOn with
  | ind n ih =>
    intro hn
    rw [dgs_pos hn, List.length_append, List.length_singleton, Nat.add_sub_cancel, Nat.pow_succ]
    by_cases h : n / 10 = 0
    · rw [h, dgs_zero]
      simp only [List.length_nil, Nat.pow_zero]
      omega
    · obtain ⟨h1, h2, h3⟩ := ih (n / 10) (by omega) h
      have e : 10 ^ (dgs (n / 10)).length = 10 ^ ((dgs (n / 10)).length - 1) * 10 := by rw [← Nat.pow_succ]; congr 1; omega
      refine ⟨by rw [e]; omega, by omega, by omega⟩
theorem dgs_len_eq {n K : Nat} (hK : 1 ≤ K) (h0 : 10 ^ (K - 1) ≤ n) (h1 : n < 10 ^ K) : (dgs n).length = K := by
  have hn : n ≠ 0 := by have := Nat.pow_pos (n := K - 1) (show 0 < 10 by omega); omega
  obtain ⟨a, b, c⟩ := dgs_len n hn
  have u := (Nat.pow_lt_pow_iff_right (show 1 < 10 by omega)).1 (Nat.lt_of_le_of_lt a h1)
  have v := (Nat.pow_lt_pow_iff_right (show 1 < 10 by omega)).1 (Nat.lt_of_le_of_lt h0 b)
  omega
theorem dgs_get : ∀ (n i : Nat), i < (dgs n).length → (dgs n)[i]? = some (n / 10 ^ ((dgs n).length - 1 - i) % 10) := by
  intro n
  induction n using Nat.strongRecOn with
  | ind n ih =>
    intro i hi
    by_cases hn : n = 0
    · subst hn; rw [dgs_zero] at hi; cases hi
    · have hl : (dgs n).length = (dgs (n / 10)).length + 1 := by rw [dgs_pos hn]; simp
      rw [hl] at hi ⊢
      rw [dgs_pos hn]
      by_cases he : i = (dgs (n / 10)).length
      · subst he
        rw [List.getElem?_append_right (Nat.le_refl _)]
        simp
      · rw [List.getElem?_append_left (by omega), ih (n / 10) (by omega) i (by omega), Nat.div_div_eq_div_mul, ← Nat.pow_succ']
        congr 4
        omega
theorem dgs_le (n : Nat) : ∀ d ∈ dgs n, d ≤ 9 := by
  intro d hd
  obtain ⟨i, hi, e⟩ := List.getElem_of_mem hd
  have := dgs_get n i hi
  rw [List.getElem?_eq_getElem hi, e] at this
  have := Option.some.inj this
  omega
theorem dgs_head {n : Nat} (h : n ≠ 0) : (dgs n).headD 0 = n / 10 ^ ((dgs n).length - 1) := by
  have h3 := dgs_len n h
  have h1 := dgs_get n 0 (by omega)
  have e : (dgs n).headD 0 = ((dgs n)[0]?).getD 0 := by cases dgs n <;> rfl
  rw [e, h1, Nat.sub_zero]
  have : n / 10 ^ ((dgs n).length - 1) < 10 := by
    have e2 : 10 ^ (dgs n).length = 10 * 10 ^ ((dgs n).length - 1) := by rw [← Nat.pow_succ']; congr 1; omega
    rw [Nat.div_lt_iff_lt_mul (Nat.pow_pos (by omega)), ← e2]
    exact h3.2.1
  simp only [Option.getD_some]
  exact Nat.mod_eq_of_lt this
/-- A decimal that is not nought: digits, the first is not nought, room for them. -/
structure Dec.Ok (a : Dec) : Prop where
  len : a.ds.length ≤ 800
  dig : ∀ d ∈ a.ds, d ≤ 9
  one : a.ds.headD 0 ≠ 0
theorem Dec.Ok.ne {a : Dec} (h : a.Ok) : a.ds ≠ [] := by intro e; exact h.one (by rw [e]; rfl)
theorem trimL_prefix (ds : List Nat) : ∃ t, ds = trimL ds ++ t ∧ ∀ x ∈ t, x = 0 := by
  refine ⟨(ds.reverse.takeWhile (· == 0)).reverse, ?_, ?_⟩
  · unfold trimL
    rw [← List.reverse_append, List.takeWhile_append_dropWhile, List.reverse_reverse]
  · intro x hx
    have := List.all_eq_true.1 (List.all_takeWhile (l := ds.reverse)) x (List.mem_reverse.1 hx)
    simpa using this
theorem trimL_head {ds : List Nat} (h : ds.headD 0 ≠ 0) : (trimL ds).headD 0 = ds.headD 0 := by
  obtain ⟨t, e, h0⟩ := trimL_prefix ds
  cases hx : trimL ds with
  | nil =>
    rw [hx, List.nil_append] at e
    subst e
    cases ds with
    | nil => exact absurd rfl h
    | cons a r => exact absurd (h0 a (List.mem_cons_self ..)) (by simpa using h)
  | cons a r =>
    rw [hx] at e
    conv => rhs; rw [e]
    rfl
theorem trim_ok {a : Dec} (h : a.Ok) : a.trim.Ok ∧ d0 a.trim = d0 a ∧ a.trim.dp = a.dp ∧ a.trim.tr = a.tr := by
  obtain ⟨t, e, _⟩ := trimL_prefix a.ds
  have hh := trimL_head h.one
  have hne : trimL a.ds ≠ [] := by intro e0; rw [e0] at hh; exact h.one hh.symm
  refine ⟨⟨?_, ?_, ?_⟩, hh, by unfold Dec.trim; rw [if_neg hne], rfl⟩
  · have := congrArg List.length e
    rw [List.length_append] at this
    have := h.len
    show (trimL a.ds).length ≤ 800
    omega
  · intro d hd
    exact h.dig d (by rw [e]; exact List.mem_append_left _ hd)
  · show (trimL a.ds).headD 0 ≠ 0
    rw [hh]; exact h.one
theorem Dec.Ok.val {a : Dec} (h : a.Ok) : 10 ^ (a.ds.length - 1) ≤ val a.ds ∧ val a.ds < 10 ^ a.ds.length ∧ 1 ≤ a.ds.length ∧ val a.ds ≠ 0 := by
  have h2 := val_lt h.dig
  have h1 := h.one
  revert h1 h2
  cases a.ds with
  | nil => intro _ h1; exact absurd rfl h1
  | cons d t =>
    intro h2 h1
    have h3 := val_ge (d := d) (t := t) (by simpa using h1)
    have := Nat.pow_pos (n := t.length) (show 0 < 10 by omega)
    exact ⟨by simpa using h3, h2, by simp, by omega⟩
theorem Dec.Ok.d0 {a : Dec} (h : a.Ok) : d0 a = PF.val a.ds / 10 ^ (a.ds.length - 1) ∧ 1 ≤ d0 a ∧ d0 a ≤ 9 := by
  unfold PF.d0
  have h1 := h.one
  have hd := h.dig
  revert h1 hd
  cases a.ds with
  | nil => intro h1; exact absurd rfl h1
  | cons d t =>
    intro h1 hd
    have ht := val_lt fun x hx => hd x (List.mem_cons_of_mem _ hx)
    refine ⟨?_, by have : d ≠ 0 := by simpa using h1
                   simp; omega, hd d (List.mem_cons_self ..)⟩
    rw [val_cons]
    simp only [List.headD_cons, List.length_cons, Nat.add_sub_cancel]
    rw [Nat.mul_comm, Nat.mul_add_div (Nat.pow_pos (by omega)), Nat.div_eq_of_lt ht, Nat.add_zero]
/-- To the left: what is made, before it is trimmed. -/
theorem lsh_ok {a : Dec} (h : a.Ok) (k : Nat) : (Dec.lsh a k).Ok ∧ d0 (a.lsh k) = val a.ds * 2 ^ k / 10 ^ ((dgs (val a.ds * 2 ^ k)).length - 1) ∧ (a.lsh k).dp = a.dp + (((dgs (val a.ds * 2 ^ k)).length : Int) - a.ds.length) := by
  obtain ⟨v1, v2, v3, v4⟩ := h.val
  have hn : val a.ds * 2 ^ k ≠ 0 := Nat.mul_ne_zero v4 (Nat.ne_of_gt (Nat.two_pow_pos _))
  have hh := dgs_head hn
  obtain ⟨l1, l2, l3⟩ := dgs_len _ hn
  have hp : 1 ≤ val a.ds * 2 ^ k / 10 ^ ((dgs (val a.ds * 2 ^ k)).length - 1) := (Nat.le_div_iff_mul_le (Nat.pow_pos (by omega))).2 (by omega)
  have ht : ((dgs (val a.ds * 2 ^ k)).take 800).headD 0 = (dgs (val a.ds * 2 ^ k)).headD 0 := by cases dgs (val a.ds * 2 ^ k) <;> rfl
  have ok : (Dec.mk ((dgs (val a.ds * 2 ^ k)).take 800) (a.dp + (((dgs (val a.ds * 2 ^ k)).length : Int) - a.ds.length)) (a.tr || ((dgs (val a.ds * 2 ^ k)).drop 800).any (· ≠ 0))).Ok := by
    refine ⟨by simp; omega, fun d hd => dgs_le _ d (List.mem_of_mem_take hd), ?_⟩
    show ((dgs (val a.ds * 2 ^ k)).take 800).headD 0 ≠ 0
    rw [ht, hh]; omega
  obtain ⟨o1, o2, o3, _⟩ := trim_ok ok
  refine ⟨o1, ?_, o3⟩
  have : d0 (a.lsh k) = ((dgs (val a.ds * 2 ^ k)).take 800).headD 0 := o2
  rw [this, ht, hh]
def muL (a : Dec) : Nat := 10 * (-a.dp).toNat + (9 - d0 a)
theorem powtab_lt (m : Nat) (h : 1 ≤ m) : 2 ^ powtab m < 10 ^ m ∧ 3 ≤ powtab m ∧ powtab m ≤ 27 := by
  by_cases h9 : m ≤ 8
  · have : m = 1 ∨ m = 2 ∨ m = 3 ∨ m = 4 ∨ m = 5 ∨ m = 6 ∨ m = 7 ∨ m = 8 := by omega
    rcases this with rfl | rfl | rfl | rfl | rfl | rfl | rfl | rfl <;> decide
  · have e : powtab m = 27 := by
      unfold powtab
      split <;> first | rfl | omega
    rw [e]
    refine ⟨Nat.lt_of_lt_of_le (show 2 ^ 27 < 10 ^ 9 by decide) (Nat.pow_le_pow_right (by omega) (by omega)), by omega, by omega⟩
theorem lsh_mu {a : Dec} (h : a.Ok) (hd : a.dp ≤ 0) (hc : a.dp < 0 ∨ (a.dp = 0 ∧ d0 a < 5)) : (a.lsh (powtab (-a.dp).toNat)).dp ≤ 0 ∧ muL (a.lsh (powtab (-a.dp).toNat)) < muL a := by
  obtain ⟨v1, v2, v3, v4⟩ := h.val
  obtain ⟨e1, e2, e3⟩ := h.d0
  obtain ⟨k, hk⟩ : ∃ k, powtab (-a.dp).toNat = k := ⟨_, rfl⟩
  rw [hk]
  obtain ⟨o1, o2, o3⟩ := lsh_ok h k
  have hn : val a.ds * 2 ^ k ≠ 0 := Nat.mul_ne_zero v4 (Nat.ne_of_gt (Nat.two_pow_pos _))
  obtain ⟨l1, l2, l3⟩ := dgs_len _ hn
  obtain ⟨f1, f2, f3⟩ := o1.d0
  obtain ⟨K, hK⟩ : ∃ K, (dgs (val a.ds * 2 ^ k)).length = K := ⟨_, rfl⟩
  rw [hK] at o2 o3 l1 l2 l3
  have k1 : 1 ≤ k := by
    by_cases hm : (-a.dp).toNat = 0
    · rw [hm] at hk; rw [← hk]; decide
    · have := powtab_lt (-a.dp).toNat (by omega)
      omega
  have p2 : 2 ≤ 2 ^ k := Nat.le_trans (show 2 ≤ 2 ^ 1 by decide) (Nat.pow_le_pow_right (by omega) k1)
  have hge : val a.ds ≤ val a.ds * 2 ^ k := Nat.le_mul_of_pos_right _ (by omega)
  have hLK : a.ds.length ≤ K := by
    have := (Nat.pow_lt_pow_iff_right (show 1 < 10 by omega)).1 (Nat.lt_of_le_of_lt (Nat.le_trans v1 hge) l2)
    omega
  have hKL : (K : Int) - a.ds.length ≤ -a.dp := by
    rcases hc with hc | ⟨hc, h5⟩
    · have hm := powtab_lt (-a.dp).toNat (by omega)
      rw [hk] at hm
      have : val a.ds * 2 ^ k < 10 ^ (a.ds.length + (-a.dp).toNat) := by
        rw [Nat.pow_add]
        exact Nat.lt_of_lt_of_le (Nat.mul_lt_mul_of_pos_right v2 (by omega)) (Nat.mul_le_mul_left _ (by omega))
      have := (Nat.pow_lt_pow_iff_right (show 1 < 10 by omega)).1 (Nat.lt_of_le_of_lt l1 this)
      omega
    · have hk1 : k = 1 := by rw [← hk, hc]; rfl
      have : val a.ds < 5 * 10 ^ (a.ds.length - 1) := by
        have hp := Nat.pow_pos (n := a.ds.length - 1) (show 0 < 10 by omega)
        rw [e1] at h5
        exact (Nat.div_lt_iff_lt_mul hp).1 h5
      have h10 : 10 ^ a.ds.length = 10 ^ (a.ds.length - 1) * 10 := by rw [← Nat.pow_succ]; congr 1; omega
      have : val a.ds * 2 ^ k < 10 ^ a.ds.length := by rw [hk1, h10]; omega
      have := (Nat.pow_lt_pow_iff_right (show 1 < 10 by omega)).1 (Nat.lt_of_le_of_lt l1 this)
      omega
  refine ⟨by rw [o3]; omega, ?_⟩
  unfold muL
  rw [o3]
  by_cases hE : K = a.ds.length
  · have : d0 a < d0 (a.lsh k) := by
      rw [o2, hE]
      have hp := Nat.pow_pos (n := a.ds.length - 1) (show 0 < 10 by omega)
      have : d0 a * 10 ^ (a.ds.length - 1) ≤ val a.ds := by rw [e1]; exact Nat.div_mul_le_self _ _
      refine (Nat.le_div_iff_mul_le hp).2 ?_
      have h2 : val a.ds * 2 ≤ val a.ds * 2 ^ k := Nat.mul_le_mul_left _ p2
      have h3 : (d0 a + 1) * 10 ^ (a.ds.length - 1) ≤ (d0 a * 10 ^ (a.ds.length - 1)) * 2 := by
        rw [Nat.mul_right_comm]
        exact Nat.mul_le_mul_right _ (by omega)
      exact Nat.le_trans h3 (Nat.le_trans (Nat.mul_le_mul_right 2 this) h2)
    omega
  · omega
end PF
/- Decimals under shifts to the right: what stays true of them, and that the loops end. No condition. -/
namespace PF
/-- What the first digits of a shift to the right come to. -/
structure Rs1 (k n r : Nat) : Prop where
  lo : 2 ^ k ≤ n
  hi : n < 10 * 2 ^ k
  r1 : 1 ≤ r
  few : r ≤ 1 ∨ 10 ^ (r - 2) < 2 ^ k
theorem rsz_spec (k : Nat) : ∀ (f n r : Nat), 1 ≤ r → 10 ^ (r - 1) ≤ n → n < 10 * 2 ^ k → 2 ^ k ≤ n * 10 ^ f → (r ≤ 1 ∨ 10 ^ (r - 2) < 2 ^ k) → Rs1 k (rsz k f n r).1 (rsz k f n r).2 ∧ r ≤ (rsz k f n r).2 ∧ ((rsz k f n r).2 = r → (rsz k f n r).1 = n)
  | 0, n, r, h1, h2, h3, h4, h5 => by
    unfold rsz
    exact ⟨⟨by simpa using h4, h3, h1, h5⟩, Nat.le_refl _, fun _ => rfl⟩
  | f + 1, n, r, h1, h2, h3, h4, h5 => by
    have p2 := Nat.two_pow_pos k
    unfold rsz
    by_cases h : n / 2 ^ k = 0
    · rw [if_pos h]
      have hn : n < 2 ^ k := by
        rcases Nat.div_eq_zero_iff.1 h with h | h
        · omega
        · exact h
      have e : 10 ^ (r + 1 - 1) = 10 ^ (r - 1) * 10 := by rw [← Nat.pow_succ]; congr 1; omega
      obtain ⟨a, b, c⟩ := rsz_spec k f (n * 10) (r + 1) (by omega) (by rw [e]; omega) (by omega) (by rw [Nat.mul_assoc, ← Nat.pow_succ']; exact h4) (.inr (by rw [show r + 1 - 2 = r - 1 by omega]; omega))
      exact ⟨a, by omega, fun h => by omega⟩
    · rw [if_neg h]
      have hn : 2 ^ k ≤ n := by
        have : 1 ≤ n / 2 ^ k := Nat.pos_of_ne_zero h
        have := (Nat.le_div_iff_mul_le p2).1 this
        omega
      exact ⟨⟨hn, h3, h1, h5⟩, Nat.le_refl _, fun _ => rfl⟩
theorem two_le_ten (k : Nat) : 2 ^ k ≤ 10 ^ k := Nat.pow_le_pow_left (by omega) k
theorem rs1_spec (k : Nat) : ∀ (t : List Nat) (n r : Nat), (∀ d ∈ t, d ≤ 9) → 1 ≤ r → 10 ^ (r - 1) ≤ n → n < 10 * 2 ^ k → (r ≤ 1 ∨ 10 ^ (r - 2) < 2 ^ k) → Rs1 k (rs1 k t n r).2.1 (rs1 k t n r).2.2 ∧ r ≤ (rs1 k t n r).2.2 ∧ ((rs1 k t n r).2.2 = r → (rs1 k t n r).2.1 = n) ∧ (rs1 k t n r).1 = t.drop ((rs1 k t n r).2.2 - r)
  | [], n, r, _, h1, h2, h3, h5 => by
    unfold rs1
    have p1 := Nat.pow_pos (n := r - 1) (show 0 < 10 by omega)
    have h4 : 2 ^ k ≤ n * 10 ^ (k + 1) := by
      have a := two_le_ten k
      have b : 1 * 10 ^ (k + 1) ≤ n * 10 ^ (k + 1) := Nat.mul_le_mul_right _ (by omega)
      rw [Nat.pow_succ] at b ⊢
      omega
    obtain ⟨a, b, c⟩ := rsz_spec k (k + 1) n r h1 h2 h3 h4 h5
    exact ⟨a, b, c, by simp⟩
  | d :: t, n, r, hd, h1, h2, h3, h5 => by
    have p2 := Nat.two_pow_pos k
    unfold rs1
    by_cases h : n / 2 ^ k = 0
    · rw [if_pos h]
      have hn : n < 2 ^ k := by
        rcases Nat.div_eq_zero_iff.1 h with h | h
        · omega
        · exact h
      have hd9 := hd d (List.mem_cons_self ..)
      have e : 10 ^ (r + 1 - 1) = 10 ^ (r - 1) * 10 := by rw [← Nat.pow_succ]; congr 1; omega
      obtain ⟨a, b, c, dd⟩ := rs1_spec k t (n * 10 + d) (r + 1) (fun x hx => hd x (List.mem_cons_of_mem _ hx)) (by omega) (by rw [e]; omega) (by omega) (.inr (by rw [show r + 1 - 2 = r - 1 by omega]; omega))
      refine ⟨a, by omega, fun h => by omega, ?_⟩
      rw [dd, show (rs1 k t (n * 10 + d) (r + 1)).2.2 - r = (rs1 k t (n * 10 + d) (r + 1)).2.2 - (r + 1) + 1 by omega, List.drop_succ_cons]
    · rw [if_neg h]
      have hn : 2 ^ k ≤ n := by
        have : 1 ≤ n / 2 ^ k := Nat.pos_of_ne_zero h
        have := (Nat.le_div_iff_mul_le p2).1 this
        omega
      exact ⟨⟨hn, h3, h1, h5⟩, Nat.le_refl _, fun _ => rfl, by simp⟩
theorem rs1_ok {a : Dec} (h : a.Ok) (k : Nat) : Rs1 k (rs1 k a.ds 0 0).2.1 (rs1 k a.ds 0 0).2.2 ∧ ((rs1 k a.ds 0 0).2.2 = 1 → (rs1 k a.ds 0 0).2.1 = d0 a) ∧ (rs1 k a.ds 0 0).1 = a.ds.drop (rs1 k a.ds 0 0).2.2 := by
  have h1 := h.one
  have hd := h.dig
  unfold d0
  revert h1 hd
  cases a.ds with
  | nil => intro h1; exact absurd rfl h1
  | cons d t =>
    intro h1 hd
    have hd9 := hd d (List.mem_cons_self ..)
    have h1' : d ≠ 0 := by simpa using h1
    have p2 := Nat.two_pow_pos k
    unfold rs1
    rw [Nat.zero_div, if_pos rfl, Nat.zero_mul, Nat.zero_add, Nat.zero_add]
    obtain ⟨x, y, z, u⟩ := rs1_spec k t d 1 (fun x hx => hd x (List.mem_cons_of_mem _ hx)) (Nat.le_refl _) (by simp; omega) (by omega) (.inl (Nat.le_refl _))
    refine ⟨x, fun e => by rw [z e]; rfl, ?_⟩
    rw [u]
    conv => rhs; rw [show (rs1 k t d 1).2.2 = (rs1 k t d 1).2.2 - 1 + 1 by omega]
    rw [List.drop_succ_cons]
theorem step_lt {k n c : Nat} (hc : c ≤ 9) : n % 2 ^ k * 10 + c < 10 * 2 ^ k := by
  have := Nat.mod_lt n (Nat.two_pow_pos k)
  omega
theorem dig_le9 {k n : Nat} (h : n < 10 * 2 ^ k) : n / 2 ^ k ≤ 9 := by
  have := (Nat.div_lt_iff_lt_mul (Nat.two_pow_pos k)).2 h
  omega
theorem rs2_spec (k : Nat) : ∀ (t : List Nat) (n : Nat), (∀ d ∈ t, d ≤ 9) → n < 10 * 2 ^ k → (rs2 k t n).2 < 10 * 2 ^ k ∧ (rs2 k t n).1.length = t.length ∧ (∀ d ∈ (rs2 k t n).1, d ≤ 9) ∧ (t = [] → (rs2 k t n).2 = n) ∧ (t ≠ [] → (rs2 k t n).1.headD 0 = n / 2 ^ k)
  | [], n, _, h => by
    unfold rs2
    exact ⟨h, rfl, (fun d hd => by cases hd), fun _ => rfl, fun h => absurd rfl h⟩
  | c :: t, n, hd, h => by
    unfold rs2
    obtain ⟨x, y, z, _, _⟩ := rs2_spec k t (n % 2 ^ k * 10 + c) (fun x hx => hd x (List.mem_cons_of_mem _ hx)) (step_lt (hd c (List.mem_cons_self ..)))
    refine ⟨x, by simp [y], ?_, (fun h => by cases h), fun _ => rfl⟩
    intro d hd
    rcases List.mem_cons.1 hd with rfl | hd
    · exact dig_le9 h
    · exact z d hd
theorem rs3_spec (k : Nat) : ∀ (f n w : Nat), n < 10 * 2 ^ k → w ≤ 800 → w + (rs3 k f n w).1.length ≤ 800 ∧ (∀ d ∈ (rs3 k f n w).1, d ≤ 9) ∧ (1 ≤ f → 2 ^ k ≤ n → w < 800 → (rs3 k f n w).1.headD 0 = n / 2 ^ k)
  | 0, n, w, h, hw => by
    unfold rs3
    exact ⟨by simpa using hw, (fun d hd => by cases hd), fun h => by omega⟩
  | f + 1, n, w, h, hw => by
    unfold rs3
    have hp := Nat.two_pow_pos k
    have hs := step_lt (k := k) (n := n) (c := 0) (by omega)
    by_cases hn : n = 0
    · rw [if_pos hn]
      exact ⟨by simpa using hw, (fun d hd => by cases hd), fun _ h => by omega⟩
    · rw [if_neg hn]
      by_cases hw8 : w < 800
      · rw [if_pos hw8]
        obtain ⟨x, y, _⟩ := rs3_spec k f (n % 2 ^ k * 10) (w + 1) hs hw8
        refine ⟨by simp; omega, ?_, fun _ _ _ => rfl⟩
        intro d hd
        rcases List.mem_cons.1 hd with rfl | hd
        · exact dig_le9 h
        · exact y d hd
      · rw [if_neg hw8]
        obtain ⟨x, y, _⟩ := rs3_spec k f (n % 2 ^ k * 10) w hs hw
        exact ⟨x, y, fun _ _ h => by omega⟩
/-- The fuel of what is left is enough. -/
def Fu (k f n : Nat) : Prop := n = 0 ∨ ∃ j, j ≤ k ∧ 2 ^ j ∣ n ∧ k + 1 ≤ j + f
theorem Fu.start (k n : Nat) : Fu k (k + 2) n := .inr ⟨0, by omega, by simp, by omega⟩
theorem Fu.pos {k f n : Nat} (h : Fu k f n) (hn : n ≠ 0) : ∃ g, f = g + 1 ∧ Fu k g (n % 2 ^ k * 10) := by
  rcases h with h | ⟨j, h1, h2, h3⟩
  · exact absurd h hn
  · refine ⟨f - 1, by omega, ?_⟩
    by_cases hj : j = k
    · subst hj
      left
      rw [Nat.mod_eq_zero_of_dvd h2]
    · right
      refine ⟨j + 1, by omega, ?_, by omega⟩
      have h4 : 2 ^ j ∣ n % 2 ^ k := (Nat.dvd_mod_iff (Nat.pow_dvd_pow 2 h1)).2 h2
      have : 2 ^ (j + 1) = 2 ^ j * 2 := Nat.pow_succ ..
      rw [this]
      exact Nat.mul_dvd_mul h4 ⟨5, rfl⟩
/-- Before the trim. -/
def Dec.rsh0 (a : Dec) (k : Nat) : Dec :=
  let p := rs1 k a.ds 0 0
  let q := rs2 k p.1 p.2.1
  let t := rs3 k (k + 2) q.2 q.1.length
  ⟨q.1 ++ t.1, a.dp - ((p.2.2 : Int) - 1), a.tr || t.2⟩
theorem rsh_eq (a : Dec) (k : Nat) : a.rsh k = (a.rsh0 k).trim := rfl
theorem headD_append {a b : List Nat} (h : a ≠ []) : (a ++ b).headD 0 = a.headD 0 := by
  cases a with
  | nil => exact absurd rfl h
  | cons x t => rfl
theorem rsh0_ok {a : Dec} (h : a.Ok) (k : Nat) : (a.rsh0 k).Ok ∧ d0 (a.rsh0 k) = (rs1 k a.ds 0 0).2.1 / 2 ^ k := by
  obtain ⟨p, _, hdrop⟩ := rs1_ok h k
  have hdg : ∀ d ∈ (rs1 k a.ds 0 0).1, d ≤ 9 := by rw [hdrop]; exact fun d hd => h.dig d (List.mem_of_mem_drop hd)
  have hl : (rs1 k a.ds 0 0).1.length ≤ 799 := by
    rw [hdrop, List.length_drop]; have := h.len; have := p.r1; omega
  obtain ⟨q1, q2, q3, q4, q5⟩ := rs2_spec k _ _ hdg p.hi
  obtain ⟨t1, t2, t3⟩ := rs3_spec k (k + 2) _ (rs2 k (rs1 k a.ds 0 0).1 (rs1 k a.ds 0 0).2.1).1.length q1 (by omega)
  have hh : d0 (a.rsh0 k) = (rs1 k a.ds 0 0).2.1 / 2 ^ k := by
    show ((rs2 k (rs1 k a.ds 0 0).1 (rs1 k a.ds 0 0).2.1).1 ++ _).headD 0 = _
    by_cases he : (rs1 k a.ds 0 0).1 = []
    · have e1 : (rs2 k (rs1 k a.ds 0 0).1 (rs1 k a.ds 0 0).2.1).1 = [] := List.eq_nil_of_length_eq_zero (by rw [q2, he]; rfl)
      rw [e1, List.nil_append]
      have := t3 (by omega) (by rw [q4 he]; exact p.lo) (by omega)
      rw [e1] at this
      rw [this, q4 he]
    · rw [headD_append, q5 he]
      intro e
      rw [e] at q2
      exact he (List.eq_nil_of_length_eq_zero q2.symm)
  refine ⟨⟨?_, ?_, ?_⟩, hh⟩
  · show ((rs2 k (rs1 k a.ds 0 0).1 (rs1 k a.ds 0 0).2.1).1 ++ (rs3 k (k + 2) (rs2 k (rs1 k a.ds 0 0).1 (rs1 k a.ds 0 0).2.1).2 (rs2 k (rs1 k a.ds 0 0).1 (rs1 k a.ds 0 0).2.1).1.length).1).length ≤ 800
    rw [List.length_append]; exact t1
  · intro d hd
    rcases List.mem_append.1 hd with hd | hd
    · exact q3 d hd
    · exact t2 d hd
  · have e : d0 (a.rsh0 k) = (a.rsh0 k).ds.headD 0 := rfl
    rw [← e, hh]
    have := (Nat.le_div_iff_mul_le (Nat.two_pow_pos k)).2 (show 1 * 2 ^ k ≤ _ by rw [Nat.one_mul]; exact p.lo)
    omega
theorem rsh_ok {a : Dec} (h : a.Ok) (k : Nat) : (a.rsh k).Ok ∧ d0 (a.rsh k) = (rs1 k a.ds 0 0).2.1 / 2 ^ k ∧ (a.rsh k).dp = a.dp - (((rs1 k a.ds 0 0).2.2 : Int) - 1) := by
  obtain ⟨o, e⟩ := rsh0_ok h k
  obtain ⟨x, y, z, _⟩ := trim_ok o
  rw [rsh_eq]
  exact ⟨x, by rw [y, e], z⟩
def muR (a : Dec) : Nat := 10 * a.dp.toNat + d0 a
theorem rsh_mu {a : Dec} (h : a.Ok) (hd : 0 < a.dp) : 0 ≤ (a.rsh (powtab a.dp.toNat)).dp ∧ muR (a.rsh (powtab a.dp.toNat)) < muR a := by
  obtain ⟨o, e1, e2⟩ := rsh_ok h (powtab a.dp.toNat)
  obtain ⟨p, p1, _⟩ := rs1_ok h (powtab a.dp.toNat)
  obtain ⟨t1, t2, t3⟩ := powtab_lt a.dp.toNat (by omega)
  obtain ⟨f1, f2, f3⟩ := o.d0
  obtain ⟨g1, g2, g3⟩ := h.d0
  generalize powtab a.dp.toNat = k at *
  obtain ⟨r, hr⟩ : ∃ r, (rs1 k a.ds 0 0).2.2 = r := ⟨_, rfl⟩
  obtain ⟨n, hn⟩ : ∃ n, (rs1 k a.ds 0 0).2.1 = n := ⟨_, rfl⟩
  rw [hr] at p p1 e2
  rw [hn] at p p1 e1
  have r1 := p.r1
  have hr2 : (r : Int) - 1 ≤ a.dp := by
    rcases p.few with h | h
    · omega
    · have := (Nat.pow_lt_pow_iff_right (show 1 < 10 by omega)).1 (Nat.lt_trans h t1)
      omega
  refine ⟨by omega, ?_⟩
  unfold muR
  rw [e2]
  by_cases h1 : r = 1
  · have hn1 := p1 h1
    have : d0 (a.rsh k) < d0 a := by
      rw [e1, hn1]
      have h8 : 2 ^ 3 ≤ 2 ^ k := Nat.pow_le_pow_right (by omega) t2
      have : d0 a / 2 ^ k ≤ d0 a / 2 ^ 3 := Nat.div_le_div_left h8 (by omega)
      omega
    omega
  · omega
theorem rshN_ok : ∀ (k : Nat) {a : Dec}, a.Ok → (a.rshN k).Ok := by
  intro k
  induction k using Nat.strongRecOn with
  | ind k ih =>
    intro a h
    unfold Dec.rshN
    split
    · exact ih (k - 60) (by omega) (rsh_ok h 60).1
    · exact (rsh_ok h k).1
end PF
