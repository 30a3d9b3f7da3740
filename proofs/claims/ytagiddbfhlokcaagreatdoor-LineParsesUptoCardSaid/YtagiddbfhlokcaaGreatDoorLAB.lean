/- Several texts of this proof, laid together. Conditions: as each says. -/
import Derived.Test.YtagiddbfhlokcaaGreatDoorLAA
import Derived.Sort.Walk0
import Derived.Lib.ParseIntB
import Derived.Shelf.Strings.SlTrimAscii
import Derived.WalkKit
import Derived.ProofKit
import Derived.Below
import Derived.WalkSpells
import Derived.WalkLawsBesides
import Derived.Lib.Hide
import Derived.Deep.Cut
import Derived.Deep.CutRange
import Derived.IntWalk
import Derived.Outline
import Ieee.Arith
import Derived.Laws.FloatArith
import Derived.Test.YtagiddbfhlokcaaGreatDoorRows
import Derived.OpenShut
import Derived.BigQuiet
import Derived.Laws.Bits64b
import Derived.Laws.Shifts
import Derived.Laws.BitsAllLaws
import Derived.Laws.ShiftsVar
import Derived.Laws.ShiftsVarLaws
import Derived.Lib.SmallJoins
import Derived.Deep.RegionHeld
import Derived.Deep.QuietTactic
import Derived.Lib.BitFns
/- Rows of things with keys, put in order: plain lists. No condition. -/
namespace Go.Proofs.YtagiddbfhlokcaaGreatDoor.Ser
open Go.RowKit Go.Sort
variable {α : Type}
theorem lt_tri (a b : List UInt8) (h : ¬ a < b) (h' : ¬ b < a) : a = b := List.le_antisymm (List.not_lt.1 h') (List.not_lt.1 h)
/-- The list's elements rise by their keys; none's key is another's. -/
def Rise (key : α → List UInt8) (l : List α) : Prop := l.Pairwise fun a b => key a < key b
/-- No element's key is below that of one ahead. -/
def Weak (key : α → List UInt8) (l : List α) : Prop := l.Pairwise fun a b => ¬ key b < key a
theorem Rise.weak {key : α → List UInt8} {l : List α} (h : Rise key l) : Weak key l := h.imp fun hab hba => List.lt_irrefl _ (List.lt_trans hab hba)
/-- Two rows of the same things, one that rises, one in order: they are one. -/
theorem rise_eq {key : α → List UInt8} : ∀ {l m : List α}, Rise key l → Weak key m → l.Perm m → l = m
  | [], m, _, _, hp => (List.Perm.nil_eq hp)
  | a :: l, [], _, _, hp => absurd hp.length_eq (by simp)
  | a :: l, b :: m, hl, hm, hp => by
    have hl' := List.pairwise_cons.1 hl
    have hm' := List.pairwise_cons.1 hm
    have hb : b ∈ a :: l := hp.mem_iff.2 (by simp)
    have ha : a ∈ b :: m := hp.mem_iff.1 (by simp)
    have e : a = b := by
      rcases List.mem_cons.1 hb with h | h
      · exact h.symm
      · rcases List.mem_cons.1 ha with h2 | h2
        · exact h2
        · exact absurd (hl'.1 b h) (hm'.1 a h2)
    subst e
    rw [rise_eq hl'.2 hm'.2 (hp.cons_inv)]
/-- x is laid behind all whose keys are not above its own. -/
def ins (key : α → List UInt8) (x : α) : List α → List α
  | [] => [x]
  | y :: l => if key x < key y then x :: y :: l else y :: ins key x l
def srt (key : α → List UInt8) : List α → List α
  | [] => []
  | x :: l => ins key x (srt key l)
theorem ins_perm (key : α → List UInt8) (x : α) : ∀ l, (ins key x l).Perm (x :: l)
  | [] => .refl _
  | y :: l => by
    rw [ins]
    split
    · exact .refl _
    · exact ((ins_perm key x l).cons y).trans (.swap x y l)
theorem srt_perm (key : α → List UInt8) : ∀ l, (srt key l).Perm l
  | [] => .refl _
  | x :: l => (ins_perm key x _).trans ((srt_perm key l).cons x)
theorem nlt_trans {a b c : List UInt8} (h1 : ¬ b < a) (h2 : ¬ c < b) : ¬ c < a := by
  intro h
  rcases Classical.em (a < b) with h3 | h3
  · exact h2 (List.lt_trans h h3)
  · have := lt_tri a b h3 h1
    subst this
    exact h2 h
theorem ins_weak (key : α → List UInt8) (x : α) : ∀ l, Weak key l → Weak key (ins key x l)
  | [], _ => by simp [ins, Weak]
  | y :: l, h => by
    have h' := List.pairwise_cons.1 h
    rw [ins]
    split
    · rename_i hlt
      have hxy : ¬ key y < key x := fun e => List.lt_irrefl _ (List.lt_trans hlt e)
      refine List.pairwise_cons.2 ⟨fun z hz => ?_, h⟩
      rcases List.mem_cons.1 hz with rfl | hz
      · exact hxy
      · exact nlt_trans hxy (h'.1 z hz)
    · rename_i hlt
      refine List.pairwise_cons.2 ⟨fun z hz => ?_, ins_weak key x l h'.2⟩
      rcases List.mem_cons.1 ((ins_perm key x l).mem_iff.1 hz) with rfl | hz
      · exact hlt
      · exact h'.1 z hz
theorem srt_weak (key : α → List UInt8) : ∀ l, Weak key (srt key l)
  | [] => by simp [srt, Weak]
  | x :: l => ins_weak key x _ (srt_weak key l)
theorem srt_len (key : α → List UInt8) (l : List α) : (srt key l).length = l.length := (srt_perm key l).length_eq
/-- Of two rows of the same things, both in order, one rises just if the other does. -/
theorem rise_of_weak {key : α → List UInt8} {l m : List α} (hl : Rise key l) (hm : Weak key m) (hp : l.Perm m) : Rise key m := by
  rw [← rise_eq hl hm hp]; exact hl
end Go.Proofs.YtagiddbfhlokcaaGreatDoor.Ser
/- What ParseFloat reads, in plain Lean: the texts that are read as floats, the mantissa and the exponent. No condition. -/
namespace PF
def isDig (c : UInt8) : Bool := decide (48 ≤ c.toNat) && decide (c.toNat ≤ 57)
/-- Digits to the end, at least one. -/
def okD (l : List UInt8) : Bool := !l.isEmpty && l.all isDig
/-- Behind an e. -/
def okX : List UInt8 → Bool
  | [] => false
  | c :: r => if c = 43 ∨ c = 45 then okD r else okD (c :: r)
/-- The digits, perhaps with a dot, perhaps an exponent behind. -/
def okM (dot saw : Bool) : List UInt8 → Bool
  | [] => saw
  | c :: r => if isDig c then okM dot true r else if c = 46 then (!dot && saw) && okM true false r else (decide (c = 101) || decide (c = 69)) && (saw && okX r)
/-- Without its sign. -/
def body (l : List UInt8) : List UInt8 := match l with | 45 :: r => r | _ => l
def isNeg (l : List UInt8) : Bool := match l with | 45 :: _ => true | _ => false
/-- Is it read as a float? -/
def decB (l : List UInt8) : Bool := okM false false (body l) && decide (l.length ≤ 400)
/-- The state of the loop over the mantissa. -/
structure RF where
  man : Nat
  ds : List Nat
  nm : Nat
  dp : Int
  dot : Bool
  saw : Bool
  tr : Bool
def rf0 : RF := ⟨0, [], 0, 0, false, false, false⟩
/-- How many digits. -/
def RF.nd (st : RF) : Nat := st.ds.length
def RF.step (st : RF) (c : UInt8) : Option RF :=
  if c = 46 then (if st.dot then none else some { st with dot := true, dp := st.nd })
  else if isDig c then
    if c = 48 ∧ st.nd = 0 then some { st with saw := true, dp := st.dp - 1 }
    else if st.nm < 19 then some { st with saw := true, ds := st.ds ++ [c.toNat - 48], man := st.man * 10 + (c.toNat - 48), nm := st.nm + 1 }
    else some { st with saw := true, ds := st.ds ++ [c.toNat - 48], tr := st.tr || decide (c ≠ 48) }
  else none
def RF.run : List UInt8 → RF → RF × List UInt8
  | [], st => (st, [])
  | c :: r, st => match st.step c with | some st' => RF.run r st' | none => (st, c :: r)
/-- An exponent's digits. -/
def exD : List UInt8 → Nat → Nat
  | [], e => e
  | c :: r, e => exD r (if e < 10000 then e * 10 + (c.toNat - 48) else e)
/-- What stands behind the mantissa: 'e', perhaps a sign, digits. -/
def exV : List UInt8 → Int
  | _ :: 45 :: r => -(exD r 0 : Int)
  | _ :: 43 :: r => exD r 0
  | _ :: r => exD r 0
  | [] => 0
/-- Mantissa, exponent, are there digits left out? -/
def readF (l : List UInt8) : Nat × Int × Bool :=
  let (st, rest) := RF.run (body l) rf0
  let dp : Int := (if st.dot then st.dp else st.nd) + exV rest
  (st.man, (if st.man = 0 then 0 else dp - st.nm), st.tr)
theorem RF.run_some {c : UInt8} {r : List UInt8} {st st' : RF} (h : st.step c = some st') : RF.run (c :: r) st = RF.run r st' := by
  simp [RF.run, h]
theorem RF.run_none {c : UInt8} {r : List UInt8} {st : RF} (h : st.step c = none) : RF.run (c :: r) st = (st, c :: r) := by
  simp [RF.run, h]
/-- What holds of the state behind k signs. -/
structure RF.Ok (st : RF) (k : Nat) : Prop where
  nd : st.ds.length ≤ k
  nm : st.nm ≤ st.ds.length
  nm19 : st.nm ≤ 19
  man : st.man < 10 ^ st.nm
  dpl : -(k : Int) ≤ st.dp
  dph : st.dp ≤ k
  dig : ∀ d ∈ st.ds, d ≤ 9
  one : st.ds.headD 1 ≠ 0
theorem rf0_ok : rf0.Ok 0 := ⟨Nat.le_refl _, Nat.le_refl _, by decide, by decide, by decide, by decide, (fun _ h => by cases h), by decide⟩
theorem RF.Ok.step {st st' : RF} {k : Nat} {c : UInt8} (h : st.Ok k) (hs : st.step c = some st') : st'.Ok (k + 1) := by
  obtain ⟨h1, h2, h3, h4, h5, h6, h7, h8⟩ := h
  have dig (d : Nat) (hd : d ≤ 9) : ∀ x ∈ st.ds ++ [d], x ≤ 9 := by
    intro x hx
    rcases List.mem_append.1 hx with hx | hx
    · exact h7 x hx
    · rw [List.mem_singleton.1 hx]; exact hd
  have one (d : Nat) (hd : ¬(d = 0 ∧ st.ds.length = 0)) : (st.ds ++ [d]).headD 1 ≠ 0 := by
    cases he : st.ds with
    | nil => simp only [List.nil_append, List.headD_cons]; rw [he] at hd; simpa using hd
    | cons x t => rw [he] at h8; simpa using h8
  unfold RF.step at hs
  split at hs
  · split at hs
    · cases hs
    · cases hs
      exact ⟨by simp; omega, by simpa using h2, h3, h4, by simp [RF.nd]; omega, by simp [RF.nd]; omega, h7, h8⟩
  · split at hs
    · rename_i hd
      simp only [isDig, Bool.and_eq_true, decide_eq_true_eq] at hd
      split at hs
      · cases hs
        exact ⟨by simp; omega, by simpa using h2, h3, h4, by simp; omega, by simp; omega, h7, h8⟩
      · rename_i hz
        have hz' : ¬(c.toNat - 48 = 0 ∧ st.ds.length = 0) := fun ⟨a, b⟩ => hz ⟨UInt8.toNat_inj.1 (by simp; omega), b⟩
        split at hs
        · cases hs
          refine ⟨by simp; omega, by simp; omega, by simp; omega, ?_, by simp; omega, by simp; omega, dig _ (by omega), one _ hz'⟩
          simp only [Nat.pow_succ]
          omega
        · cases hs
          exact ⟨by simp; omega, by simp; omega, h3, h4, by simp; omega, by simp; omega, dig _ (by omega), one _ hz'⟩
    · cases hs
theorem RF.Ok.run : ∀ {l : List UInt8} {st : RF} {k : Nat}, st.Ok k → (RF.run l st).1.Ok (k + l.length)
  | [], _, _, h => h
  | c :: r, st, k, h => by
    unfold RF.run
    cases hs : st.step c with
    | none =>
      obtain ⟨h1, h2, h3, h4, h5, h6, h7, h8⟩ := h
      exact ⟨by simp; omega, h2, h3, h4, by simp; omega, by simp; omega, h7, h8⟩
    | some st' =>
      have := RF.Ok.run (l := r) (h.step hs)
      simp only [List.length_cons]
      rw [show k + (r.length + 1) = k + 1 + r.length by omega]
      exact this
theorem okM_saw : ∀ (l : List UInt8) {dot : Bool}, okM dot false l = true → okM dot true l = true
  | [], _, h => by simp [okM] at h
  | c :: r, dot, h => by
    unfold okM at h ⊢
    split at h
    · rename_i hd; rw [if_pos hd]; exact h
    · rename_i hd
      rw [if_neg hd]
      split at h
      · simp at h
      · simp at h
/-- What is left behind the mantissa of a text that is read. -/
def Rest (l : List UInt8) : Prop := l = [] ∨ ∃ c r, l = c :: r ∧ (c = 101 ∨ c = 69) ∧ okX r = true
theorem run_ok : ∀ (l : List UInt8) (st : RF) (saw : Bool), okM st.dot saw l = true → (saw = true → st.saw = true) → (RF.run l st).1.saw = true ∧ Rest (RF.run l st).2
  | [], st, saw, h, hs => ⟨hs (by simpa [okM] using h), .inl rfl⟩
  | c :: r, st, saw, h, hs => by
    unfold okM at h
    by_cases hd : isDig c = true
    · rw [if_pos hd] at h
      have h46 : ¬c = 46 := by rintro rfl; revert hd; decide
      unfold RF.run RF.step
      rw [if_neg h46, if_pos hd]
      split
      · rename_i st' e
        split at e
        · cases e; exact run_ok r _ true h fun _ => rfl
        · split at e
          · cases e; exact run_ok r _ true h fun _ => rfl
          · cases e; exact run_ok r _ true h fun _ => rfl
      · rename_i e
        split at e
        · cases e
        · split at e <;> cases e
    · rw [if_neg hd] at h
      by_cases h46 : c = 46
      · rw [if_pos h46] at h
        simp only [Bool.and_eq_true, Bool.not_eq_true'] at h
        obtain ⟨⟨h1, h2⟩, h3⟩ := h
        unfold RF.run RF.step
        rw [if_pos h46, h1]
        simp only [Bool.false_eq_true, if_false]
        have := run_ok r { st with dot := true, dp := st.nd } true
        have h4 := okM_saw r h3
        exact this h4 fun _ => hs h2
      · rw [if_neg h46] at h
        simp only [Bool.and_eq_true, Bool.or_eq_true, decide_eq_true_eq] at h
        obtain ⟨h1, h2, h3⟩ := h
        unfold RF.run RF.step
        rw [if_neg h46, if_neg hd]
        exact ⟨hs h2, .inr ⟨c, r, rfl, h1, h3⟩⟩
theorem exD_lt : ∀ (l : List UInt8) (e : Nat), l.all isDig = true → e < 100010 → exD l e < 100010
  | [], e, _, h => h
  | c :: r, e, hl, h => by
    simp only [List.all_cons, Bool.and_eq_true] at hl
    obtain ⟨hc, hr⟩ := hl
    simp only [isDig, Bool.and_eq_true, decide_eq_true_eq] at hc
    unfold exD
    refine exD_lt r _ hr ?_
    split
    · omega
    · exact h
end PF
/- What a value's text is read as, in plain Lean: numbers, quoted texts. No condition. -/
namespace PF
open Go
/-- Digits as a number. -/
def numD (l : List UInt8) : Nat := l.foldl (fun n c => n * 10 + (c.toNat - 48)) 0
theorem numD_foldl (l : List UInt8) (n : Nat) : l.foldl (fun n c => n * 10 + (c.toNat - 48)) n = n * 10 ^ l.length + numD l := by
  induction l generalizing n with
  | nil => simp [numD]
  | cons c t ih =>
    simp only [List.foldl_cons, List.length_cons, numD]
    rw [ih, ih (0 * 10 + (c.toNat - 48)), Nat.pow_succ]
    simp only [Nat.zero_mul, Nat.zero_add, Nat.add_mul]
    have : n * 10 * 10 ^ t.length = n * (10 ^ t.length * 10) := by rw [Nat.mul_assoc, Nat.mul_comm 10]
    omega
theorem numD_snoc (l : List UInt8) (c : UInt8) : numD (l ++ [c]) = numD l * 10 + (c.toNat - 48) := by
  unfold numD
  rw [List.foldl_append]
  rfl
theorem numD_le (a b : List UInt8) : numD a ≤ numD (a ++ b) := by
  unfold numD
  rw [List.foldl_append, numD_foldl b]
  have := Nat.pow_pos (n := b.length) (show 0 < 10 by omega)
  have : List.foldl (fun n c => n * 10 + (c.toNat - 48)) 0 a * 1 ≤ List.foldl (fun n c => n * 10 + (c.toNat - 48)) 0 a * 10 ^ b.length := Nat.mul_le_mul_left _ this
  omega
/-- An integer's text: the number, and the error's number. -/
def intP (l : List UInt8) : Int × Int :=
  if 1 ≤ (body l).length ∧ (body l).length ≤ 25 ∧ (body l).all isDig = true then
    if isNeg l then (if numD (body l) ≤ 9223372036854775808 then (-(numD (body l) : Int), 0) else (0, 3))
    else (if numD (body l) < 9223372036854775808 then ((numD (body l) : Int), 0) else (0, 3))
  else (0, 2)
theorem uintM (M : Nat) : ∀ (l : List UInt8) (acc : Nat), M = 18446744073709551615 → l.all isDig = true → acc ≤ M → Lib.parseUintM M acc l = if l.foldl (fun n c => n * 10 + (c.toNat - 48)) acc ≤ M then .ok (l.foldl (fun n c => n * 10 + (c.toNat - 48)) acc) else .range
  | [], acc, _, _, h => by simp [Lib.parseUintM, h]
  | c :: r, acc, hM, hl, h => by
    simp only [List.all_cons, Bool.and_eq_true] at hl
    have hc := hl.1
    simp only [isDig, Bool.and_eq_true, decide_eq_true_eq] at hc
    have hmono : acc * 10 + (c.toNat - 48) ≤ r.foldl (fun n c => n * 10 + (c.toNat - 48)) (acc * 10 + (c.toNat - 48)) := by
      rw [numD_foldl]
      have := Nat.pow_pos (n := r.length) (show 0 < 10 by omega)
      have : (acc * 10 + (c.toNat - 48)) * 1 ≤ (acc * 10 + (c.toNat - 48)) * 10 ^ r.length := Nat.mul_le_mul_left _ this
      omega
    unfold Lib.parseUintM
    rw [if_pos hc, List.foldl_cons]
    by_cases h1 : 1844674407370955162 ≤ acc
    · rw [if_pos h1, if_neg (by omega)]
    · rw [if_neg h1]
      by_cases h2 : M < acc * 10 + (c.toNat - 48)
      · rw [if_pos h2, if_neg (by omega)]
      · rw [if_neg h2, uintM M r _ hM hl.2 (by omega)]
theorem body_neg (r : List UInt8) : body (45 :: r) = r ∧ isNeg (45 :: r) = true := ⟨rfl, rfl⟩
theorem body_pos {l : List UInt8} (h : ∀ r, l ≠ 45 :: r) : body l = l ∧ isNeg l = false := by
  constructor
  · unfold body
    split
    · rename_i r; exact absurd rfl (h r)
    · rfl
  · unfold isNeg
    split
    · rename_i r; exact absurd rfl (h r)
    · rfl
/-- ParseInt at digits behind perhaps a sign. -/
theorem parseInt_eq {l : List UInt8} (h1 : 1 ≤ (body l).length) (h2 : (body l).all isDig = true) :
    Lib.parseIntB 64 l = if isNeg l then (if numD (body l) ≤ 9223372036854775808 then .ok (-(numD (body l) : Int)) else .range) else (if numD (body l) < 9223372036854775808 then .ok (numD (body l) : Int) else .range) := by
  have key : ∀ u : List UInt8, 1 ≤ u.length → u.all isDig = true → Lib.parseUintB 64 u = if numD u ≤ 18446744073709551615 then .ok (numD u) else .range := by
    intro u hu hd
    unfold Lib.parseUintB
    rw [if_neg (by intro e; rw [e] at hu; simp at hu), uintM (2 ^ 64 - 1) u 0 (by decide) hd (by omega)]
    rfl
  by_cases hc : ∃ r, l = 45 :: r
  · obtain ⟨r, rfl⟩ := hc
    rw [(body_neg r).1] at h1 h2 ⊢
    rw [(body_neg r).2, if_pos rfl]
    have k := key r h1 h2
    unfold Lib.parseIntB
    simp only
    rw [if_pos (by decide), k]
    by_cases h3 : numD r ≤ 9223372036854775808
    · rw [if_pos h3, if_pos (by omega)]
      simp only
      rw [if_neg (by rintro ⟨h, _⟩; exact h rfl), if_neg (by intro h; have h := h.2; simp at h; omega), if_pos (by decide)]
    · rw [if_neg h3]
      by_cases h4 : numD r ≤ 18446744073709551615
      · rw [if_pos h4]
        simp only
        rw [if_neg (by rintro ⟨h, _⟩; exact h rfl), if_pos ⟨by decide, by simp; omega⟩]
      · rw [if_neg h4]
  · have hb := body_pos (l := l) (fun r e => hc ⟨r, e⟩)
    rw [hb.1] at h1 h2 ⊢
    rw [hb.2, if_neg (by decide)]
    have k := key l h1 h2
    cases l with
    | nil => simp at h1
    | cons c r =>
      have hcd : isDig c = true := by simp only [List.all_cons, Bool.and_eq_true] at h2; exact h2.1
      simp only [isDig, Bool.and_eq_true, decide_eq_true_eq] at hcd
      have hn : ¬(c.toNat = 45) := by omega
      have hn2 : ¬(c.toNat = 43 ∨ c.toNat = 45) := by omega
      unfold Lib.parseIntB
      simp only
      rw [if_neg hn2, k]
      by_cases h3 : numD (c :: r) < 9223372036854775808
      · rw [if_pos h3, if_pos (by omega)]
        simp only
        rw [if_neg (by intro h; have h := h.2; simp at h; omega), if_neg (fun h => hn h.1), if_neg hn]
      · rw [if_neg h3]
        by_cases h4 : numD (c :: r) ≤ 18446744073709551615
        · rw [if_pos h4]
          simp only
          rw [if_pos ⟨hn, by simp; omega⟩]
        · rw [if_neg h4]
/-- What stands behind the digits of a float's text. -/
def tailE : List UInt8 → Bool
  | [] => true
  | c :: r => (decide (c = 101) || decide (c = 69)) && okX r
def tailM : List UInt8 → Bool
  | 46 :: r => !(r.takeWhile isDig).isEmpty && tailE (r.dropWhile isDig)
  | r => tailE r
theorem okM_digits (dot : Bool) : ∀ (l : List UInt8) (saw : Bool), okM dot saw l = okM dot (saw || !(l.takeWhile isDig).isEmpty) (l.dropWhile isDig)
  | [], saw => by simp
  | c :: r, saw => by
    by_cases h : isDig c = true
    · rw [List.takeWhile_cons, List.dropWhile_cons, if_pos h, if_pos h]
      conv => lhs; unfold okM
      rw [if_pos h, okM_digits dot r true]
      simp
    · rw [List.takeWhile_cons, List.dropWhile_cons, if_neg h, if_neg h]
      simp
theorem drop_head {l r : List UInt8} {c : UInt8} (h : l.dropWhile isDig = c :: r) : isDig c = false := by
  induction l with
  | nil => cases h
  | cons a t ih =>
    by_cases ha : isDig a = true
    · rw [List.dropWhile_cons, if_pos ha] at h; exact ih h
    · rw [List.dropWhile_cons, if_neg ha] at h
      injection h with h1 _
      rw [← h1]; simpa using ha
theorem okM_true {r : List UInt8} (h : ∀ c t, r = c :: t → isDig c = false) : okM true true r = tailE r := by
  cases r with
  | nil => rfl
  | cons c t =>
    have hc := h c t rfl
    unfold okM tailE
    rw [if_neg (by rw [hc]; decide)]
    by_cases h46 : c = 46
    · subst h46
      rw [if_pos rfl]
      rfl
    · rw [if_neg h46]; simp
/-- A float's text, part by part. -/
theorem okM_parts (l : List UInt8) : okM false false l = (!(l.takeWhile isDig).isEmpty && tailM (l.dropWhile isDig)) := by
  rw [okM_digits, Bool.false_or]
  have hh : ∀ c t, l.dropWhile isDig = c :: t → isDig c = false := fun c t h => drop_head h
  cases he : (l.takeWhile isDig).isEmpty with
  | true =>
    rw [Bool.not_true, Bool.false_and]
    cases hr : l.dropWhile isDig with
    | nil => rfl
    | cons c t =>
      have hc := hh c t hr
      unfold okM
      rw [if_neg (by rw [hc]; decide)]
      split <;> simp
  | false =>
    rw [Bool.not_false, Bool.true_and]
    cases hr : l.dropWhile isDig with
    | nil => rfl
    | cons c t =>
      have hc := hh c t hr
      by_cases h46 : c = 46
      · subst h46
        have e1 : okM false true (46 :: t) = okM true false t := by
          conv => lhs; unfold okM
          rw [if_neg (by rw [hc]; decide), if_pos rfl]
          rfl
        have e2 : tailM (46 :: t) = (!(t.takeWhile isDig).isEmpty && tailE (t.dropWhile isDig)) := rfl
        rw [e1, e2, okM_digits, Bool.false_or]
        cases ht : (t.takeWhile isDig).isEmpty with
        | true =>
          rw [Bool.not_true, Bool.false_and]
          cases hr2 : t.dropWhile isDig with
          | nil => rfl
          | cons d u =>
            have hd := drop_head hr2
            unfold okM
            rw [if_neg (by rw [hd]; decide)]
            split <;> simp
        | false =>
          rw [Bool.not_false, Bool.true_and]
          exact okM_true fun d u h => drop_head h
      · have e2 : tailM (c :: t) = tailE (c :: t) := by
          unfold tailM
          split
          · rename_i r h; injection h with h1 _; exact absurd h1 h46
          · rfl
        rw [e2]
        unfold okM tailE
        rw [if_neg (by rw [hc]; decide), if_neg h46]
        simp
/-- What stands between quotes, the last of them still there. -/
def unq : List UInt8 → Option (List UInt8)
  | [] => none
  | [c] => if c = 34 then some [] else none
  | c :: d :: r => if c = 34 ∨ c = 10 then none else if c = 92 then (if d = 34 ∨ d = 92 then (unq r).map (d :: ·) else if d = 110 then (unq r).map (10 :: ·) else none) else (unq (d :: r)).map (c :: ·)
end PF
/- Digits cut off a text; is a text a float's? No condition but its size. -/
namespace Go.Proofs.YtagiddbfhlokcaaGreatDoor
open Go.RowKit
set_option maxRecDepth 100000
/-- A text of bytes. -/
def bs (l : List UInt8) : ByteArray := ⟨l.toArray⟩
theorem bs_eta (s : ByteArray) : s = bs s.data.toList := by
  apply ByteArray.ext
  simp [bs]
theorem bs_list (l : List UInt8) : (bs l).data.toList = l := by simp [bs]
theorem bs_size (l : List UInt8) : (bs l).size = l.length := by simp [bs, ByteArray.size]
theorem bs_toList (l : List UInt8) : (bs l).toList = l := by rw [Lib.toList_data, bs_list]
theorem bs_get (l : List UInt8) (i : Nat) (h : i < (bs l).size) : (bs l)[i] = l[i]'(by rw [bs_size] at h; exact h) := by
  show (bs l).data[i] = _
  simp [bs]
theorem bs_tail (c : UInt8) (t : List UInt8) : (bs (c :: t)).extract 1 (bs (c :: t)).size = bs t := by
  apply ByteArray.ext
  apply Array.toList_inj.1
  rw [Lib.extract_data, bs_list, bs_list, bs_size]
  simp
theorem cut_digits (c : UInt8) : (List.contains [48, 49, 50, 51, 52, 53, 54, 55, 56, 57] c) = PF.isDig c := by
  have key : ∀ n : Fin 256, (List.contains [48, 49, 50, 51, 52, 53, 54, 55, 56, 57] (UInt8.ofNat n.val)) = PF.isDig (UInt8.ofNat n.val) := by decide +kernel
  have := key ⟨c.toNat, c.toNat_lt⟩
  simpa using this
theorem trim120 (l : List UInt8) (w : World) : Calls Tryz.prog 120 #[.string (bs l), .string ⟨#[48, 49, 50, 51, 52, 53, 54, 55, 56, 57]⟩] w fun e w' => e = .returned (.string (bs (l.dropWhile PF.isDig))) ∧ Below w.heap.size w w' := by
  refine (Any.strings_TrimLeft_laid Tryz.lays161 (by kernel_rfl) (bs l) ⟨#[48, 49, 50, 51, 52, 53, 54, 55, 56, 57]⟩ w (by decide) ?_).mono ?_
  · intro j b hb
    have : b ∈ [48, 49, 50, 51, 52, 53, 54, 55, 56, 57] := List.mem_of_getElem? hb
    simp at this
    rcases this with rfl | rfl | rfl | rfl | rfl | rfl | rfl | rfl | rfl | rfl <;> decide
  · rintro e w' ⟨rfl, h⟩
    refine ⟨?_, h⟩
    rw [bs_list]
    have e2 : Lib.trimLeftS l [48, 49, 50, 51, 52, 53, 54, 55, 56, 57] = l.dropWhile PF.isDig := by
      unfold Lib.trimLeftS
      congr 1
      funext c
      exact cut_digits c
    show Ending.returned (.string ⟨(Lib.trimLeftS l [48, 49, 50, 51, 52, 53, 54, 55, 56, 57]).toArray⟩) = _
    rw [e2]
    rfl
theorem take_drop_len (l : List UInt8) : (l.takeWhile PF.isDig).length + (l.dropWhile PF.isDig).length = l.length := by
  rw [← List.length_append, List.takeWhile_append_dropWhile]
theorem digits83 (l : List UInt8) (hl : l.length ≤ 281474976710656) (w : World) : Calls Tryz.prog 83 #[.string (bs l)] w fun e w' => e = .returned (.tuple #[.int .i64 ((l.takeWhile PF.isDig).length : Int), .string (bs (l.dropWhile PF.isDig))]) ∧ Below w.heap.size w w' := by
  have M := Lib.hid (trim120 l w)
  have ht := take_drop_len l
  obtain ⟨r, hr⟩ : ∃ r, l.dropWhile PF.isDig = r := ⟨_, rfl⟩
  obtain ⟨n, hn⟩ : ∃ n, (l.takeWhile PF.isDig).length = n := ⟨_, rfl⟩
  rw [hr] at M ht ⊢
  rw [hn] at ht ⊢
  have e1 : ((bs l).size : Int) - ((bs r).size : Int) = (n : Int) := by rw [bs_size, bs_size]; omega
  have b1 : (bs l).size ≤ 281474976710656 := by rw [bs_size]; exact hl
  have b2 : (bs r).size ≤ 281474976710656 := by rw [bs_size]; omega
  clear hr hn ht
  go_enter Tryz.func83, Tryz.ntmps83
  go_wp2_with fail
  refine M.out.mono ?_
  rintro e w2 ⟨rfl, hb⟩
  have HB := Lib.hid hb
  clear hb
  go_wp2_with fail
  go_ret2
  exact ⟨rfl, HB.out⟩
theorem trimMinus (l : List UInt8) : Lib.trimPrefix l [45] = PF.body l := by
  unfold Lib.trimPrefix Lib.hasPrefix
  by_cases hc : ∃ r, l = 45 :: r
  · obtain ⟨r, rfl⟩ := hc
    rw [(PF.body_neg r).1]
    simp
  · rw [(PF.body_pos fun r e => hc ⟨r, e⟩).1]
    cases l with
    | nil => simp
    | cons c r =>
      have : ¬(45 = c) := fun e => hc ⟨r, by rw [e]⟩
      simp [List.isPrefixOf, this]
theorem minus84 (l : List UInt8) (w : World) : Calls Tryz.prog 84 #[.string (bs l), .string ⟨#[45]⟩] w fun e w' => e = .returned (.string (bs (PF.body l))) ∧ w = w' := by
  refine (Tryz.strings_TrimPrefix (bs l) ⟨#[45]⟩ w).mono ?_
  rintro e w' ⟨rfl, h⟩
  refine ⟨?_, h.symm⟩
  rw [bs_list]
  show Ending.returned (.string ⟨(Lib.trimPrefix l [45]).toArray⟩) = _
  rw [trimMinus]
  rfl
/-- The text behind perhaps a dot and digits; is all well? -/
def dotP (ok : Bool) (r : List UInt8) : Bool × List UInt8 := match r with
  | 46 :: t => (ok && !(t.takeWhile PF.isDig).isEmpty, t.dropWhile PF.isDig)
  | _ => (ok, r)
def strip (t : List UInt8) : List UInt8 := match t with
  | 43 :: u => u
  | 45 :: u => u
  | _ => t
def expP (ok : Bool) (r : List UInt8) : Bool × List UInt8 := match r with
  | c :: t => if c = 101 ∨ c = 69 then (ok && !((strip t).takeWhile PF.isDig).isEmpty, (strip t).dropWhile PF.isDig) else (ok, r)
  | [] => (ok, [])
theorem drop_all : ∀ l : List UInt8, (l.dropWhile PF.isDig).isEmpty = l.all PF.isDig
  | [] => rfl
  | c :: t => by
    by_cases hc : PF.isDig c = true
    · rw [List.dropWhile_cons, if_pos hc, drop_all t, List.all_cons, hc, Bool.true_and]
    · rw [List.dropWhile_cons, if_neg hc, List.all_cons]
      simp [hc]
theorem okD_parts (u : List UInt8) : PF.okD u = (!(u.takeWhile PF.isDig).isEmpty && (u.dropWhile PF.isDig).isEmpty) := by
  unfold PF.okD
  cases u with
  | nil => rfl
  | cons c t =>
    by_cases hc : PF.isDig c = true
    · rw [List.takeWhile_cons, List.dropWhile_cons, if_pos hc, if_pos hc]
      simp only [List.isEmpty_cons, Bool.not_false, Bool.true_and, List.all_cons, hc]
      rw [drop_all]
    · rw [List.takeWhile_cons, List.dropWhile_cons, if_neg hc, if_neg hc]
      simp [hc]
theorem okX_strip (t : List UInt8) : PF.okX t = PF.okD (strip t) := by
  cases t with
  | nil => rfl
  | cons c u =>
    show (if c = 43 ∨ c = 45 then PF.okD u else PF.okD (c :: u)) = _
    by_cases h1 : c = 43
    · subst h1; rw [if_pos (.inl rfl)]; rfl
    · by_cases h2 : c = 45
      · subst h2; rw [if_pos (.inr rfl)]; rfl
      · rw [if_neg (by simp [h1, h2])]
        have : strip (c :: u) = c :: u := by
          unfold strip
          split
          · rename_i v h; injection h with h _; exact absurd h h1
          · rename_i v h; injection h with h _; exact absurd h h2
          · rfl
        rw [this]
theorem expP_ok (ok : Bool) (r : List UInt8) : ((expP ok r).1 && (expP ok r).2.isEmpty) = (ok && PF.tailE r) := by
  cases r with
  | nil => simp [expP, PF.tailE]
  | cons c t =>
    unfold expP PF.tailE
    simp only
    by_cases hc : c = 101 ∨ c = 69
    · rw [if_pos hc, okX_strip, okD_parts]
      have : (decide (c = 101) || decide (c = 69)) = true := by simpa using hc
      rw [this]
      cases ok <;> simp
    · rw [if_neg hc]
      have : (decide (c = 101) || decide (c = 69)) = false := by simpa using hc
      rw [this]
      simp
theorem dotP_ok (ok : Bool) (r : List UInt8) : ((expP (dotP ok r).1 (dotP ok r).2).1 && (expP (dotP ok r).1 (dotP ok r).2).2.isEmpty) = (ok && PF.tailM r) := by
  rw [expP_ok]
  by_cases hc : ∃ t, r = 46 :: t
  · obtain ⟨t, rfl⟩ := hc
    show (ok && !(t.takeWhile PF.isDig).isEmpty && PF.tailE (t.dropWhile PF.isDig)) = (ok && (!(t.takeWhile PF.isDig).isEmpty && PF.tailE (t.dropWhile PF.isDig)))
    rw [Bool.and_assoc]
  · have e1 : dotP ok r = (ok, r) := by
      unfold dotP
      split
      · rename_i t; exact absurd ⟨t, rfl⟩ hc
      · rfl
    have e2 : PF.tailM r = PF.tailE r := by
      unfold PF.tailM
      split
      · rename_i t; exact absurd ⟨t, rfl⟩ hc
      · rfl
    rw [e1, e2]
def headIs (c : UInt8) : List UInt8 → Bool
  | a :: _ => decide (a = c)
  | [] => false
theorem hasP (r : List UInt8) (c : UInt8) (w : World) : Calls Tryz.prog 41 #[.string (bs r), .string ⟨#[c]⟩] w fun e w' => e = .returned (.bool (headIs c r)) ∧ w = w' := by
  refine (Tryz.strings_HasPrefix (bs r) ⟨#[c]⟩ w).mono ?_
  rintro e w' ⟨rfl, h⟩
  refine ⟨?_, h.symm⟩
  rw [bs_list]
  cases r with
  | nil => rfl
  | cons a t =>
    show Ending.returned (.bool (Lib.hasPrefix (a :: t) [c])) = _
    unfold Lib.hasPrefix headIs
    by_cases h : a = c
    · subst h; simp
    · have h' : ¬c = a := fun e => h e.symm
      simp [List.isPrefixOf, h, h']
theorem dotP_no {r : List UInt8} (ok : Bool) (h : ∀ t, r ≠ 46 :: t) : dotP ok r = (ok, r) := by
  unfold dotP
  split
  · rename_i t; exact absurd rfl (h t)
  · rfl
theorem head_no {r : List UInt8} {c : UInt8} (h : ∀ t, r ≠ c :: t) : headIs c r = false := by
  cases r with
  | nil => rfl
  | cons a t => exact decide_eq_false fun e => h t (by rw [e])
def isE : List UInt8 → Bool
  | c :: _ => decide (c = 101) || decide (c = 69)
  | [] => false
def isS : List UInt8 → Bool
  | c :: _ => decide (c = 43) || decide (c = 45)
  | [] => false
theorem bs_head {r : List UInt8} {c : UInt8} {t : List UInt8} (e : r = c :: t) : ∃ h : 0 < (bs r).size, (bs r)[0] = c ∧ (bs r).toList.isEmpty = false ∧ (0 : Int) < ((bs r).size : Int) ∧ (1 : Int) ≤ ((bs r).size : Int) ∧ (bs r).extract 1 (bs r).size = bs t := by
  subst e
  have h : 0 < (bs (c :: t)).size := by rw [bs_size]; simp
  exact ⟨h, bs_get _ 0 h, by rw [bs_toList]; rfl, by omega, by omega, bs_tail c t⟩
theorem list_cases (r : List UInt8) : r = [] ∨ ∃ c t, r = c :: t := by
  cases r with
  | nil => exact .inl rfl
  | cons c t => exact .inr ⟨c, t, rfl⟩
theorem bs_nil {r : List UInt8} (e : r = []) : (bs r).toList.isEmpty = true := by rw [bs_toList, e]; rfl
theorem strip_no {t : List UInt8} (h : isS t = false) : strip t = t := by
  cases t with
  | nil => rfl
  | cons c u =>
    simp only [isS, Bool.or_eq_false_iff, decide_eq_false_iff_not] at h
    unfold strip
    split
    · rename_i v e; injection e with e _; exact absurd e h.1
    · rename_i v e; injection e with e _; exact absurd e h.2
    · rfl
theorem strip_yes {t : List UInt8} (h : isS t = true) : ∃ c u, t = c :: u ∧ strip t = u := by
  cases t with
  | nil => cases h
  | cons c u =>
    refine ⟨c, u, rfl, ?_⟩
    simp only [isS, Bool.or_eq_true, decide_eq_true_eq] at h
    rcases h with rfl | rfl <;> rfl
theorem expP_yes {r : List UInt8} (ok : Bool) (h : isE r = true) : ∃ c t, r = c :: t ∧ expP ok r = (ok && !((strip t).takeWhile PF.isDig).isEmpty, (strip t).dropWhile PF.isDig) := by
  cases r with
  | nil => cases h
  | cons c t =>
    refine ⟨c, t, rfl, ?_⟩
    simp only [isE, Bool.or_eq_true, decide_eq_true_eq] at h
    unfold expP
    simp only
    rw [if_pos h]
set_option maxHeartbeats 4000000 in
theorem decimal58 (l : List UInt8) (hl : l.length ≤ 281474976710656) (w : World) : Calls Tryz.prog 58 #[.string (bs l)] w fun e w' => e = .returned (.bool (PF.decB l)) ∧ Below w.heap.size w w' := by
  have hbl : (PF.body l).length ≤ 281474976710656 := by
    unfold PF.body
    split
    · rename_i r; simp at hl; omega
    · exact hl
  obtain ⟨ok1, hok1⟩ : ∃ b : Bool, (!((PF.body l).takeWhile PF.isDig).isEmpty && decide (l.length ≤ 400)) = b := ⟨_, rfl⟩
  obtain ⟨r1, hr1⟩ : ∃ r, (PF.body l).dropWhile PF.isDig = r := ⟨_, rfl⟩
  obtain ⟨n1, hn1⟩ : ∃ n, ((PF.body l).takeWhile PF.isDig).length = n := ⟨_, rfl⟩
  obtain ⟨R, hR⟩ : ∃ R, PF.decB l = R := ⟨_, rfl⟩
  have hfin : ((expP (dotP ok1 r1).1 (dotP ok1 r1).2).1 && (expP (dotP ok1 r1).1 (dotP ok1 r1).2).2.isEmpty) = R := by
    rw [dotP_ok, ← hR, ← hok1, ← hr1]
    unfold PF.decB
    rw [PF.okM_parts, Bool.and_right_comm]
  have hr1l : r1.length ≤ 281474976710656 := by have := take_drop_len (PF.body l); rw [hr1] at this; omega
  have M84 := Lib.hid (fun w => minus84 l w)
  have M83 := Lib.hid (fun w => digits83 (PF.body l) hbl w)
  rw [hr1, hn1] at M83
  rw [hR]
  have HFIN := Lib.hid hfin
  have HOK1 := Lib.hid hok1
  have HN1 := Lib.hid hn1
  have bl : (bs l).size ≤ 281474976710656 := by rw [bs_size]; exact hl
  have HBL : Hid ((bs l).size = l.length) := Lib.hid (bs_size l)
  clear hfin hok1 hr1 hn1 hR hbl
  go_enter Tryz.func58, Tryz.ntmps58
  go_wp2_with fail
  refine (M84.out _).mono ?_
  rintro e w' ⟨rfl, rfl⟩
  go_wp2_with fail
  refine (M83.out _).mono ?_
  rintro e w2 ⟨rfl, hb2⟩
  have HB2 := Lib.hid hb2
  clear hb2
  go_upto_region 2 with (fail)
  go_cut [5] from 12 to 18 (fun o w' => o = .bool ok1 ∧ w2 = w')
  case first =>
    have hok := HOK1.out
    have hn := HN1.out
    cases ht : (PF.body l).takeWhile PF.isDig with
    | nil =>
      rw [ht] at hok hn
      obtain rfl : n1 = 0 := by rw [← hn]; rfl
      obtain rfl : false = ok1 := by rw [← hok]; rfl
      clear hok hn ht
      go_wp2_with fail
      go_meet
      case rel => exact ⟨rfl, rfl⟩
    | cons a t =>
      rw [ht] at hok hn
      have n1p : (0 : Int) < (n1 : Int) := by rw [← hn]; simp
      have ho : decide (l.length ≤ 400) = ok1 := by rw [← hok]; rfl
      have ho2 : decide (((bs l).size : Int) ≤ 400) = ok1 := by rw [← ho, HBL.out]; exact decide_eq_decide.2 (by omega)
      clear hok hn ht ho
      go_wp2_with fail
      go_meet
      case rel => exact ⟨rfl, rfl⟩
  case rest =>
    obtain ⟨rfl, rfl⟩ := hcut
    obtain ⟨d, hd⟩ : ∃ d, dotP ok1 r1 = d := ⟨_, rfl⟩
    have hfin := HFIN.out
    rw [hd] at hfin
    have HFIN2 := Lib.hid hfin
    have HD := Lib.hid hd
    have hd2 : d.2.length ≤ 281474976710656 := by
      rw [← hd]
      unfold dotP
      split
      · rename_i t
        have := take_drop_len t
        simp at hr1l
        simp only
        omega
      · exact hr1l
    have HD2 := Lib.hid hd2
    have HR1 := Lib.hid hr1l
    clear hd hfin HFIN hd2 hr1l
    obtain ⟨h46, hh46⟩ : ∃ b, headIs 46 r1 = b := ⟨_, rfl⟩
    have M41 := Lib.hid (fun w => hasP r1 46 w)
    rw [hh46] at M41
    have H46 := Lib.hid hh46
    clear hh46
    go_wp2_with fail
    refine (M41.out _).mono ?_
    rintro e w' ⟨rfl, rfl⟩
    go_upto_if 20 with (fail)
    go_cut [3, 4, 5] from 20 to 31 (fun n r o w' => (∃ z : Int, n = .int .i64 z) ∧ r = .string (bs d.2) ∧ o = .bool d.1 ∧ Below w.heap.size w w')
    case first =>
      by_cases hc : ∃ t, r1 = 46 :: t
      · obtain ⟨t, rfl⟩ := hc
        have ht := bs_tail 46 t
        obtain rfl : h46 = true := H46.out.symm
        have hsz : ((bs (46 :: t)).size : Int) = (t.length : Int) + 1 := by rw [bs_size]; simp
        have h1 : (1 : Int) ≤ ((bs (46 :: t)).size : Int) := by omega
        have htl : t.length ≤ 281474976710656 := by have := HR1.out; simp at this; omega
        have M := Lib.hid (fun w => digits83 t htl w)
        have hdd := HD.out
        have e1 : dotP ok1 (46 :: t) = (ok1 && !(t.takeWhile PF.isDig).isEmpty, t.dropWhile PF.isDig) := rfl
        rw [e1] at hdd
        have HDD := Lib.hid hdd
        have HSZ := Lib.hid hsz
        clear hdd e1 hsz
        go_wp2_with fail
        refine (M.out _).mono ?_
        rintro e w3 ⟨rfl, hb3⟩
        have HB3 := Lib.hid (HB2.out.trans (hb3.mono HB2.out.size))
        clear hb3
        cases hk : t.takeWhile PF.isDig with
        | nil =>
          have hdd := HDD.out
          rw [hk] at hdd
          have HDE := Lib.hid hdd
          clear hdd
          cases ok1
          · go_wp2_with fail
            go_meet
            case rel => exact ⟨⟨_, rfl⟩, by rw [← HDE.out], by rw [← HDE.out]; rfl, HB3.out⟩
          · go_wp2_with fail
            go_meet
            case rel => exact ⟨⟨_, rfl⟩, by rw [← HDE.out], by rw [← HDE.out]; rfl, HB3.out⟩
        | cons a u =>
          have hdd := HDD.out
          rw [hk] at hdd
          have HDE := Lib.hid hdd
          have u1 : (0 : Int) < ((u.length + 1 : Nat) : Int) := by omega
          clear hdd
          cases ok1
          · go_wp2_with fail
            go_meet
            case rel => exact ⟨⟨_, rfl⟩, by rw [← HDE.out], by rw [← HDE.out]; rfl, HB3.out⟩
          · go_wp2_with fail
            go_meet
            case rel => exact ⟨⟨_, rfl⟩, by rw [← HDE.out], by rw [← HDE.out]; rfl, HB3.out⟩
      · have hdd := HD.out
        have hno : ∀ t, r1 ≠ 46 :: t := fun t e => hc ⟨t, e⟩
        rw [dotP_no ok1 hno] at hdd
        have HDD := Lib.hid hdd
        obtain rfl : h46 = false := by rw [← H46.out]; exact head_no hno
        clear hdd hc hno
        go_wp2_with fail
        go_meet
        case rel => exact ⟨⟨_, rfl⟩, by rw [← HDD.out], by rw [← HDD.out], HB2.out⟩
    case rest =>
      obtain ⟨⟨z, rfl⟩, rfl, rfl, hb⟩ := hcut
      rename World => w3
      obtain ⟨ok2, r2⟩ := d
      simp only at HFIN2 HD2 ⊢
      have HB3 := Lib.hid hb
      obtain ⟨bE, hbE⟩ : ∃ b, isE r2 = b := ⟨_, rfl⟩
      have HBE := Lib.hid hbE
      clear hb hbE HD
      go_upto_region 6 with (fail)
      go_cut [43] from 32 to 43 (fun t w' => t = .bool bE ∧ w3 = w')
      case first =>
        have hbe := HBE.out
        rcases list_cases r2 with hrc | ⟨c, t, hrc⟩
        · have e0 := bs_nil hrc
          rw [hrc] at hbe
          obtain rfl : false = bE := hbe
          clear hrc
          go_wp2_with fail
          go_meet
          case rel => exact ⟨rfl, rfl⟩
        · obtain ⟨hsz, hg, hem, h0i, h1i, htl⟩ := bs_head hrc
          rw [hrc] at hbe
          clear hrc htl
          by_cases h1 : c = 101
          · obtain rfl : true = bE := by rw [← hbe, h1]; rfl
            have c1 : ((c.toNat : Int) == 101) = true := by rw [h1]; rfl
            clear h1 hbe
            go_wp2_with fail
            go_meet
            case rel => exact ⟨rfl, rfl⟩
          · have c1 : ((c.toNat : Int) == 101) = false := by rw [beq_eq_false_iff_ne]; intro h; exact h1 (UInt8.toNat_inj.1 (by have : (101 : UInt8).toNat = 101 := rfl; omega))
            by_cases h2 : c = 69
            · obtain rfl : true = bE := by rw [← hbe, h2]; rfl
              have c2 : ((c.toNat : Int) == 69) = true := by rw [h2]; rfl
              clear h1 h2 hbe
              go_wp2_with fail
              go_meet
              case rel => exact ⟨rfl, rfl⟩
            · obtain rfl : false = bE := by rw [← hbe]; simp [isE, h1, h2]
              have c2 : ((c.toNat : Int) == 69) = false := by rw [beq_eq_false_iff_ne]; intro h; exact h2 (UInt8.toNat_inj.1 (by have : (69 : UInt8).toNat = 69 := rfl; omega))
              clear h1 h2 hbe
              go_wp2_with fail
              go_meet
              case rel => exact ⟨rfl, rfl⟩
      case rest =>
        obtain ⟨rfl, rfl⟩ := hcut
        obtain ⟨x, hx⟩ : ∃ x, expP ok2 r2 = x := ⟨_, rfl⟩
        have HX := Lib.hid hx
        have hfin := HFIN2.out
        rw [hx] at hfin
        have HF := Lib.hid hfin
        clear hx hfin HFIN2
        go_upto_if 43 with (fail)
        go_cut [3, 4, 5] from 44 to 69 (fun n r o w' => (∃ z : Int, n = .int .i64 z) ∧ r = .string (bs x.2) ∧ o = .bool x.1 ∧ Below w.heap.size w w')
        case first =>
          have hbe := HBE.out
          have hxx := HX.out
          cases bE with
          | false =>
            have he : expP ok2 r2 = (ok2, r2) := by
              cases r2 with
              | nil => rfl
              | cons c t => 
                have : ¬(c = 101 ∨ c = 69) := by simpa [isE] using hbe
                unfold expP
                simp only
                rw [if_neg this]
            rw [he] at hxx
            have HXX := Lib.hid hxx
            clear hbe hxx he
            go_wp2_with fail
            go_meet
            case rel => exact ⟨⟨_, rfl⟩, by rw [← HXX.out], by rw [← HXX.out], HB3.out⟩
          | true =>
            obtain ⟨c, t, hrc, he⟩ := expP_yes ok2 hbe
            rw [he] at hxx
            have HXX := Lib.hid hxx
            obtain ⟨hsz, hg, hem, h0i, h1i, htl⟩ := bs_head hrc
            have htlen : t.length ≤ 281474976710656 := by have := HD2.out; rw [hrc] at this; simp at this; omega
            obtain ⟨bS, hbS⟩ : ∃ b, isS t = b := ⟨_, rfl⟩
            have HBS := Lib.hid hbS
            have HTL := Lib.hid htlen
            clear hbe hxx he hrc hbS htlen
            go_upto_region 8 with (fail)
            go_cut [57] from 46 to 57 (fun q w' => q = .bool bS ∧ w3 = w')
            case first =>
              have hbs := HBS.out
              rcases list_cases t with htc | ⟨d, u, htc⟩
              · have e0 := bs_nil htc
                rw [htc] at hbs
                obtain rfl : false = bS := hbs
                clear htc
                go_wp2_with fail
                go_meet
                case rel => exact ⟨rfl, rfl⟩
              · obtain ⟨hsz2, hg2, hem2, h0i2, h1i2, htl2⟩ := bs_head htc
                rw [htc] at hbs
                clear htc htl2
                by_cases h1 : d = 43
                · obtain rfl : true = bS := by rw [← hbs, h1]; rfl
                  have c1 : ((d.toNat : Int) == 43) = true := by rw [h1]; rfl
                  clear h1 hbs
                  go_wp2_with fail
                  go_meet
                  case rel => exact ⟨rfl, rfl⟩
                · have c1 : ((d.toNat : Int) == 43) = false := by rw [beq_eq_false_iff_ne]; intro h; exact h1 (UInt8.toNat_inj.1 (by have : (43 : UInt8).toNat = 43 := rfl; omega))
                  by_cases h2 : d = 45
                  · obtain rfl : true = bS := by rw [← hbs, h2]; rfl
                    have c2 : ((d.toNat : Int) == 45) = true := by rw [h2]; rfl
                    clear h1 h2 hbs
                    go_wp2_with fail
                    go_meet
                    case rel => exact ⟨rfl, rfl⟩
                  · obtain rfl : false = bS := by rw [← hbs]; simp [isS, h1, h2]
                    have c2 : ((d.toNat : Int) == 45) = false := by rw [beq_eq_false_iff_ne]; intro h; exact h2 (UInt8.toNat_inj.1 (by have : (45 : UInt8).toNat = 45 := rfl; omega))
                    clear h1 h2 hbs
                    go_wp2_with fail
                    go_meet
                    case rel => exact ⟨rfl, rfl⟩
            case rest =>
              obtain ⟨rfl, rfl⟩ := hcut
              obtain ⟨v, hv⟩ : ∃ v, strip t = v := ⟨_, rfl⟩
              rw [hv] at HXX
              have hvl : v.length ≤ 281474976710656 := by
                have := HTL.out
                cases bS with
                | false => rw [← hv, strip_no HBS.out]; exact this
                | true =>
                  obtain ⟨d, u, h1, h2⟩ := strip_yes HBS.out
                  rw [h2] at hv
                  rw [h1] at this
                  rw [← hv]
                  simp at this
                  omega
              have M := Lib.hid (fun w => digits83 v hvl w)
              have HVV := Lib.hid hv
              clear hv hvl
              go_upto_if 57 with (fail)
              go_cut [4] from 58 to 59 (fun r w' => r = .string (bs v) ∧ w3 = w')
              case first =>
                cases bS with
                | false =>
                  have hv2 : t = v := by rw [← HVV.out, strip_no HBS.out]
                  have HV2 := Lib.hid hv2
                  clear hv2
                  go_wp2_with fail
                  go_meet
                  case rel => exact ⟨by rw [HV2.out], rfl⟩
                | true =>
                  obtain ⟨d, u, h1, h2⟩ := strip_yes HBS.out
                  obtain ⟨hsz2, hg2, hem2, h0i2, h1i2, htl2⟩ := bs_head h1
                  have HV2 : Hid (u = v) := Lib.hid (by rw [← HVV.out, h2])
                  clear h1 h2
                  go_wp2_with fail
                  go_meet
                  case rel => exact ⟨by rw [HV2.out], rfl⟩
              case rest =>
                obtain ⟨rfl, rfl⟩ := hcut
                go_wp2_with fail
                refine (M.out _).mono ?_
                rintro e w5 ⟨rfl, hb5⟩
                have HB5 := Lib.hid (HB3.out.trans (hb5.mono HB3.out.size))
                clear hb5
                have hxx := HXX.out
                rcases list_cases (v.takeWhile PF.isDig) with hk | ⟨a, u, hk⟩
                · rw [hk] at hxx ⊢
                  have HXY := Lib.hid hxx
                  clear hxx hk
                  cases ok2
                  · go_wp2_with fail
                    go_meet
                    case rel => exact ⟨⟨_, rfl⟩, by rw [← HXY.out], by rw [← HXY.out]; rfl, HB5.out⟩
                  · go_wp2_with fail
                    go_meet
                    case rel => exact ⟨⟨_, rfl⟩, by rw [← HXY.out], by rw [← HXY.out]; rfl, HB5.out⟩
                · rw [hk] at hxx ⊢
                  have HXY := Lib.hid hxx
                  have u1 : (0 : Int) < ((u.length + 1 : Nat) : Int) := by omega
                  clear hxx hk
                  cases ok2
                  · go_wp2_with fail
                    go_meet
                    case rel => exact ⟨⟨_, rfl⟩, by rw [← HXY.out], by rw [← HXY.out]; rfl, HB5.out⟩
                  · go_wp2_with fail
                    go_meet
                    case rel => exact ⟨⟨_, rfl⟩, by rw [← HXY.out], by rw [← HXY.out]; rfl, HB5.out⟩
        case rest =>
          obtain ⟨⟨z2, rfl⟩, rfl, rfl, hb⟩ := hcut
          rename World => w4
          obtain ⟨ok3, r3⟩ := x
          have hf := HF.out
          simp only at hf
          have HF2 := Lib.hid hf
          have HB4 := Lib.hid hb
          clear hf hb
          cases ok3 with
          | false =>
            go_wp2_with fail
            go_ret
            exact ⟨by rw [← HF2.out]; rfl, HB4.out⟩
          | true =>
            rcases list_cases r3 with hrc | ⟨c, t, hrc⟩
            · have e0 := bs_nil hrc
              rw [hrc] at HF2
              clear hrc
              go_wp2_with fail
              go_ret
              exact ⟨by rw [← HF2.out]; rfl, HB4.out⟩
            · obtain ⟨hsz, hg, hem, h0i, h1i, htl⟩ := bs_head hrc
              rw [hrc] at HF2
              clear hrc htl
              go_wp2_with fail
              go_ret
              exact ⟨by rw [← HF2.out]; rfl, HB4.out⟩
end Go.Proofs.YtagiddbfhlokcaaGreatDoor
/- A quoted text is read: value's unquote. Condition: the text's length. -/
namespace Go.Proofs.YtagiddbfhlokcaaGreatDoor
open Go.RowKit
set_option maxRecDepth 100000
/-- A value, of the program's type. -/
def val (k b : Int) (t : ByteArray) : Value := .agg #[.int .i64 k, .int .u64 b, .string t]
/-- A quoted text's value, and the error's number. -/
def unqV (o : Option (List UInt8)) : Value × Int := match o with
  | none => (val 0 0 ⟨#[]⟩, 2)
  | some t => if 65536 < t.length then (val 0 0 ⟨#[]⟩, 4) else (val 4 0 (bs t), 0)
theorem unq_close (d : UInt8) (t : List UInt8) : PF.unq (34 :: d :: t) = none := by unfold PF.unq; rw [if_pos (.inl rfl)]
theorem unq_line (t : List UInt8) : PF.unq (10 :: t) = none := by
  cases t with
  | nil => rfl
  | cons d t => unfold PF.unq; rw [if_pos (.inr rfl)]
theorem unq_esc (d : UInt8) (t : List UInt8) : PF.unq (92 :: d :: t) = (if d = 34 ∨ d = 92 then (PF.unq t).map (d :: ·) else if d = 110 then (PF.unq t).map (10 :: ·) else none) := by
  conv => lhs; unfold PF.unq
  rw [if_neg (by decide), if_pos rfl]
theorem unq_plain (c : UInt8) (t : List UInt8) (h1 : c ≠ 34) (h2 : c ≠ 10) (h3 : c ≠ 92) : PF.unq (c :: t) = (PF.unq t).map (c :: ·) := by
  cases t with
  | nil => unfold PF.unq; rw [if_neg h1]; rfl
  | cons d t =>
    conv => lhs; unfold PF.unq
    rw [if_neg (by simp [h1, h2]), if_neg h3]
theorem byteCells_app (l : List UInt8) (c : UInt8) : Lib.byteCells (l ++ [c]) = Lib.byteCells l ++ [.int .u8 c.toNat] := by
  simp [Lib.byteCells]
theorem byteCells_len (l : List UInt8) : (Lib.byteCells l).length = l.length := by simp [Lib.byteCells]
theorem idxE (d : UInt8) (w : World) : Calls Tryz.prog 70 #[.string ⟨#[34, 92, 110]⟩, .int .u8 d.toNat] w fun e w' => e = .returned (.int .i64 (if d = 34 then 0 else if d = 92 then 1 else if d = 110 then 2 else -1)) ∧ w = w' := by
  refine (Tryz.strings_IndexByte ⟨#[34, 92, 110]⟩ d.toNat w).mono ?_
  rintro e w' ⟨rfl, h⟩
  refine ⟨?_, h.symm⟩
  have : ((d.toNat : Int).toNat.toUInt8) = d := by simp
  rw [this]
  congr 2
  have key : ∀ n : Fin 256, (Lib.indexByte [34, 92, 110] (UInt8.ofNat n.val)) = (if UInt8.ofNat n.val = 34 then (0 : Int) else if UInt8.ofNat n.val = 92 then 1 else if UInt8.ofNat n.val = 110 then 2 else -1) := by decide +kernel
  have := key ⟨d.toNat, d.toNat_lt⟩
  simpa using this
def InUnq (r : List UInt8) (B : Nat) (w : World) (v : Value) (wr : World) : Prop :=
  ∃ (t l : List UInt8), v = .string (bs t) ∧ PF.unq r = (PF.unq t).map (l ++ ·) ∧ l.length + t.length ≤ r.length ∧ Lib.IsBuilder 117 5 B B (Lib.byteCells l) wr ∧ Below B w wr
def sizeOfV : Value → Nat
  | .string t => t.size
  | _ => 0
theorem map_app (o : Option (List UInt8)) (l : List UInt8) (c : UInt8) : (o.map (c :: ·)).map (l ++ ·) = o.map ((l ++ [c]) ++ ·) := by
  cases o <;> simp
theorem byte_eq (c : UInt8) (n : Nat) (hn : n < 256) (h : c = UInt8.ofNat n) : ((c.toNat : Int) == (n : Int)) = true := by
  subst h; simp; omega
theorem byte_ne (c : UInt8) (n : Nat) (hn : n < 256) (h : c ≠ UInt8.ofNat n) : ((c.toNat : Int) == (n : Int)) = false := by
  rw [beq_eq_false_iff_ne]
  intro e
  apply h
  apply UInt8.toNat_inj.1
  simp
  omega
theorem heap_setCell_same (w : World) (B k : Nat) (cs : Array Value) (T : TypeId) (u : Value) (h : w.heap[B]? = some (.cells cs T (0, 0))) : (w.setCell ⟨B, k, none⟩ u).heap[B]? = some (.cells (cs.setIfInBounds k u) T (0, 0)) := by
  simp [World.setCell, Array.getElem?_modify, h]
theorem results53 {F : Func} (hF : F.results = #[.cell 2 53, .tmp 3]) {tmps : Array Value} {wr : World} {B : Nat} {x y z a b c : Value} (hb : tmps.getD 2 undef = .pointer (some ⟨B, 0, none⟩)) (hk : wr.heap[B]? = some (.cells #[a, b, c] 53 (0, 0))) :
    (results F tmps).run Tryz.prog (((wr.setCell ⟨B, 0, none⟩ x).setCell ⟨B, 1, none⟩ y).setCell ⟨B, 2, none⟩ z) = .ok (.tuple #[.agg #[x, y, z], tmps.getD 3 undef]) (((wr.setCell ⟨B, 0, none⟩ x).setCell ⟨B, 1, none⟩ y).setCell ⟨B, 2, none⟩ z) := by
  have h1 := heap_setCell_same _ B 0 _ _ x hk
  have h2 := heap_setCell_same _ B 1 _ _ y h1
  have h3 := heap_setCell_same _ B 2 _ _ z h2
  obtain ⟨w2, hw⟩ : ∃ w2, ((wr.setCell ⟨B, 0, none⟩ x).setCell ⟨B, 1, none⟩ y).setCell ⟨B, 2, none⟩ z = w2 := ⟨_, rfl⟩
  rw [hw] at h3 ⊢
  have c0 : w2.cell? ⟨B, 0, none⟩ = some x := Lib.cell_of_heap h3 0
  have c1 : w2.cell? ⟨B, 1, none⟩ = some y := Lib.cell_of_heap h3 1
  have c2 : w2.cell? ⟨B, 2, none⟩ = some z := Lib.cell_of_heap h3 2
  have hb' : tmps[2]?.getD undef = .pointer (some ⟨B, 0, none⟩) := by simpa using hb
  simp [results, hF, hb', c0, c1, c2, go_sem]
/-- The result's cells, behind the loop. -/
theorem resFacts {w w' : World} (h : Below (w.heap.size + 1) (w.alloc (.cells #[.int .i64 0, .int .u64 0, .string ⟨#[]⟩] 53 (0, 0))) w') :
    w'.cell? ⟨w.heap.size, 0, none⟩ = some (.int .i64 0) ∧ w'.cell? ⟨w.heap.size, 1, none⟩ = some (.int .u64 0) ∧ w'.cell? ⟨w.heap.size, 2, none⟩ = some (.string ⟨#[]⟩) ∧
    w'.frozen? ⟨w.heap.size, 0, none⟩ = false ∧ w'.frozen? ⟨w.heap.size, 1, none⟩ = false ∧ w'.frozen? ⟨w.heap.size, 2, none⟩ = false ∧ w'.heap[w.heap.size]? = some (.cells #[.int .i64 0, .int .u64 0, .string ⟨#[]⟩] 53 (0, 0)) ∧ Below w.heap.size w w' := by
  have hb : w'.heap[w.heap.size]? = some (.cells #[.int .i64 0, .int .u64 0, .string ⟨#[]⟩] 53 (0, 0)) := by
    rw [h.block _ (by omega)]
    show (w.heap.push _)[w.heap.size]? = _
    rw [Array.getElem?_push_size]
  have hs := h.size
  simp only [World.size_alloc] at hs
  exact ⟨Lib.cell_of_heap hb 0, Lib.cell_of_heap hb 1, Lib.cell_of_heap hb 2, Lib.frozen_of_heap hb 0, Lib.frozen_of_heap hb 1, Lib.frozen_of_heap hb 2, hb, ((Below.refl _ _).alloc (Nat.le_refl _) _).trans (h.mono (by omega))⟩
set_option maxHeartbeats 4000000 in
theorem unquote56 (a : UInt8) (r : List UInt8) (hr : r.length ≤ 140737488355327) (w : World) : Calls Tryz.prog 56 #[.string (bs (a :: r))] w fun e w' => e = .returned (.tuple #[(unqV (PF.unq r)).1, .int .i64 (unqV (PF.unq r)).2]) ∧ Below w.heap.size w w' := by
  obtain ⟨hsz0, hg0, hem0, h0i0, h1i0, htl0⟩ := bs_head (r := a :: r) rfl
  go_enter Tryz.func56, Tryz.ntmps56
  have W2 : Below w.heap.size w w := Below.refl _ _
  go_wp2_with fail
  go_loopw [5] (fun v wr => InUnq r (w.heap.size + 1) (w.alloc (.cells #[.int .i64 0, .int .u64 0, .string ⟨#[]⟩] 53 (0, 0))) v wr) (fun v _ => sizeOfV v)
  case atStart => 
    refine ⟨r, [], rfl, by cases PF.unq r <;> rfl, by simp, ?_, (Below.refl _ _).alloc (by simp) _⟩
    have := Lib.fresh_isBuilder 117 5 (w.alloc (.cells #[.int .i64 0, .int .u64 0, .string ⟨#[]⟩] 53 (0, 0)))
    simp only [World.size_alloc] at this
    exact this
  case round =>
    obtain ⟨t, l, rfl, hun, hle, hbd, hb⟩ := hrel
    have HD := Lib.hid hbd
    have HB := Lib.hid hb
    have HUN := Lib.hid hun
    have hsz := HB.out.size
    simp only [World.size_alloc] at hsz
    clear hbd hb hun
    rcases list_cases t with e | ⟨c, u, e⟩
    · have e0 := bs_nil e
      have HUN2 : Hid (PF.unq r = none) := Lib.hid (by rw [HUN.out, e]; rfl)
      clear e
      obtain ⟨f0, f1, f2, g0, g1, g2, hk, hbw⟩ := resFacts HB.out
      have HBW := Lib.hid hbw
      have HK := Lib.hid hk
      clear hbw hk
      go_wp2_with fail
      refine bodyPost_ret (results53 (F := Tryz.f56) rfl rfl HK.out) rfl ?_
      exact ⟨by rw [HUN2.out]; rfl, ((HBW.out.setCell (Nat.le_refl _) _).setCell (Nat.le_refl _) _).setCell (Nat.le_refl _) _⟩
    · obtain ⟨hp, hg, hem, h0i, h1i, htl⟩ := bs_head e
      rw [e] at HUN
      have htlen : t.length = u.length + 1 := by rw [e]; rfl
      clear e
      by_cases h34 : c = 34
      · have c34 := byte_eq c 34 (by decide) h34
        subst h34
        rcases list_cases u with e | ⟨d, v, e⟩
        · have e0 := bs_nil e
          have HUN2 : Hid (PF.unq r = some l) := Lib.hid (by rw [HUN.out, e]; simp [PF.unq])
          clear e
          obtain ⟨f0, f1, f2, g0, g1, g2, hk, hbw⟩ := resFacts HB.out
          have HBW := Lib.hid hbw
          have HK := Lib.hid hk
          clear hbw hk
          go_wp2_with fail
          refine (Tryz.Builder_Len (w.heap.size + 1) (w.heap.size + 1) _ wr HD.out).mono ?_
          rintro e w1 ⟨rfl, rfl⟩
          have hbl : (Lib.byteCells l).length = l.length := byteCells_len l
          rw [hbl]
          by_cases hlen : 65536 < l.length
          · have hlz : (65536 : Int) < (l.length : Int) := by omega
            go_wp2_with fail
            refine bodyPost_ret (results53 (F := Tryz.f56) rfl rfl HK.out) rfl ?_
            exact ⟨by rw [HUN2.out]; simp only [unqV]; rw [if_pos hlen]; rfl, ((HBW.out.setCell (Nat.le_refl _) _).setCell (Nat.le_refl _) _).setCell (Nat.le_refl _) _⟩
          · have hlz : ¬((65536 : Int) < (l.length : Int)) := by omega
            go_wp2_with fail
            refine (Tryz.Builder_String_any (w.heap.size + 1) (w.heap.size + 1) _ _ HD.out hsz).mono ?_
            rintro e w2 ⟨rfl, hb2⟩
            have HB2 := Lib.hid (HB.out.trans hb2)
            clear f0 f1 f2 g0 g1 g2 hb2 HBW HK
            obtain ⟨f0, f1, f2, g0, g1, g2, hk, hbw⟩ := resFacts HB2.out
            have HBW := Lib.hid hbw
            have HK := Lib.hid hk
            clear hk hbw
            go_wp2_with fail
            refine bodyPost_ret (results53 (F := Tryz.f56) rfl rfl HK.out) rfl ?_
            exact ⟨by rw [HUN2.out]; simp only [unqV]; rw [if_neg hlen]; rfl, ((HBW.out.setCell (Nat.le_refl _) _).setCell (Nat.le_refl _) _).setCell (Nat.le_refl _) _⟩
        · obtain ⟨hp2, hg2, hem2, h0i2, h1i2, htl2⟩ := bs_head e
          have HUN2 : Hid (PF.unq r = none) := Lib.hid (by rw [HUN.out, e, unq_close]; rfl)
          clear e
          obtain ⟨f0, f1, f2, g0, g1, g2, hk, hbw⟩ := resFacts HB.out
          have HBW := Lib.hid hbw
          have HK := Lib.hid hk
          clear hbw hk
          go_wp2_with fail
          refine bodyPost_ret (results53 (F := Tryz.f56) rfl rfl HK.out) rfl ?_
          exact ⟨by rw [HUN2.out]; rfl, ((HBW.out.setCell (Nat.le_refl _) _).setCell (Nat.le_refl _) _).setCell (Nat.le_refl _) _⟩
      · have c34 := byte_ne c 34 (by decide) h34
        by_cases h10 : c = 10
        · have c10 := byte_eq c 10 (by decide) h10
          have HUN2 : Hid (PF.unq r = none) := Lib.hid (by rw [HUN.out, h10, unq_line]; rfl)
          clear h34 h10
          obtain ⟨f0, f1, f2, g0, g1, g2, hk, hbw⟩ := resFacts HB.out
          have HBW := Lib.hid hbw
          have HK := Lib.hid hk
          clear hbw hk
          go_wp2_with fail
          refine bodyPost_ret (results53 (F := Tryz.f56) rfl rfl HK.out) rfl ?_
          exact ⟨by rw [HUN2.out]; rfl, ((HBW.out.setCell (Nat.le_refl _) _).setCell (Nat.le_refl _) _).setCell (Nat.le_refl _) _⟩
        · have c10 := byte_ne c 10 (by decide) h10
          by_cases h92 : c = 92
          · have c92 := byte_eq c 92 (by decide) h92
            rw [h92] at HUN
            clear h34 h10 h92
            rcases list_cases u with e | ⟨d, v, e⟩
            · have e0 := bs_nil e
              have HUN2 : Hid (PF.unq r = none) := Lib.hid (by rw [HUN.out, e]; rfl)
              clear e
              obtain ⟨f0, f1, f2, g0, g1, g2, hk, hbw⟩ := resFacts HB.out
              have HBW := Lib.hid hbw
              have HK := Lib.hid hk
              clear hbw hk
              go_wp2_with fail
              refine bodyPost_ret (results53 (F := Tryz.f56) rfl rfl HK.out) rfl ?_
              exact ⟨by rw [HUN2.out]; rfl, ((HBW.out.setCell (Nat.le_refl _) _).setCell (Nat.le_refl _) _).setCell (Nat.le_refl _) _⟩
            · obtain ⟨hp2, hg2, hem2, h0i2, h1i2, htl2⟩ := bs_head e
              rw [e] at HUN
              have hul : u.length = v.length + 1 := by rw [e]; rfl
              clear e
              have M := Lib.hid (fun w => idxE d w)
              by_cases d34 : d = 34
              · rw [if_pos d34] at M
                clear c34
                have HUN3 : Hid (PF.unq r = ((PF.unq v).map (34 :: ·)).map (l ++ ·)) := Lib.hid (by rw [HUN.out, unq_esc, if_pos (.inl d34), d34])
                clear d34
                go_wp2_with fail
                refine (M.out _).mono ?_
                rintro e w1 ⟨rfl, rfl⟩
                go_wp2_with fail
                refine (writeByte (w.heap.size + 1) (w.heap.size + 1) _ (34) wr HD.out (by rw [byteCells_len]; omega) hsz).mono ?_
                rintro e w1 ⟨rfl, hd1, hb1⟩
                have HD1 := Lib.hid hd1
                have HB1 := Lib.hid hb1
                clear hd1 hb1
                go_wp2_with fail
                go_roundw
                case rel => exact ⟨v, l ++ [34], rfl, by rw [HUN3.out, map_app], by simp; omega, .inr (by rw [byteCells_app]; exact HD1.out), HB.out.trans HB1.out⟩
                case measure => simp [sizeOfV, bs_size]; omega
              · by_cases d92 : d = 92
                · rw [if_neg d34, if_pos d92] at M
                  have HUN3 : Hid (PF.unq r = ((PF.unq v).map (92 :: ·)).map (l ++ ·)) := Lib.hid (by rw [HUN.out, unq_esc, if_pos (.inr d92), d92])
                  clear d34 d92
                  go_wp2_with fail
                  refine (M.out _).mono ?_
                  rintro e w1 ⟨rfl, rfl⟩
                  go_wp2_with fail
                  refine (writeByte (w.heap.size + 1) (w.heap.size + 1) _ (92) wr HD.out (by rw [byteCells_len]; omega) hsz).mono ?_
                  rintro e w1 ⟨rfl, hd1, hb1⟩
                  have HD1 := Lib.hid hd1
                  have HB1 := Lib.hid hb1
                  clear hd1 hb1
                  go_wp2_with fail
                  go_roundw
                  case rel => exact ⟨v, l ++ [92], rfl, by rw [HUN3.out, map_app], by simp; omega, .inr (by rw [byteCells_app]; exact HD1.out), HB.out.trans HB1.out⟩
                  case measure => simp [sizeOfV, bs_size]; omega
                · by_cases d110 : d = 110
                  · rw [if_neg d34, if_neg d92, if_pos d110] at M
                    have HUN3 : Hid (PF.unq r = ((PF.unq v).map (10 :: ·)).map (l ++ ·)) := Lib.hid (by rw [HUN.out, unq_esc, if_neg (by simp [d34, d92]), if_pos d110])
                    clear d34 d92 d110
                    go_wp2_with fail
                    refine (M.out _).mono ?_
                    rintro e w1 ⟨rfl, rfl⟩
                    go_wp2_with fail
                    refine (writeByte (w.heap.size + 1) (w.heap.size + 1) _ (10) wr HD.out (by rw [byteCells_len]; omega) hsz).mono ?_
                    rintro e w1 ⟨rfl, hd1, hb1⟩
                    have HD1 := Lib.hid hd1
                    have HB1 := Lib.hid hb1
                    clear hd1 hb1
                    go_wp2_with fail
                    go_roundw
                    case rel => exact ⟨v, l ++ [10], rfl, by rw [HUN3.out, map_app], by simp; omega, .inr (by rw [byteCells_app]; exact HD1.out), HB.out.trans HB1.out⟩
                    case measure => simp [sizeOfV, bs_size]; omega
                  · rw [if_neg d34, if_neg d92, if_neg d110] at M
                    have HUN3 : Hid (PF.unq r = none) := Lib.hid (by rw [HUN.out, unq_esc, if_neg (by simp [d34, d92]), if_neg d110]; rfl)
                    clear d34 d92 d110
                    go_wp2_with fail
                    refine (M.out _).mono ?_
                    rintro e w1 ⟨rfl, rfl⟩
                    obtain ⟨f0, f1, f2, g0, g1, g2, hk, hbw⟩ := resFacts HB.out
                    have HBW := Lib.hid hbw
                    have HK := Lib.hid hk
                    clear hbw hk
                    go_wp2_with fail
                    refine bodyPost_ret (results53 (F := Tryz.f56) rfl rfl HK.out) rfl ?_
                    exact ⟨by rw [HUN3.out]; rfl, ((HBW.out.setCell (Nat.le_refl _) _).setCell (Nat.le_refl _) _).setCell (Nat.le_refl _) _⟩
          · have c92 := byte_ne c 92 (by decide) h92
            have HUN3 : Hid (PF.unq r = ((PF.unq u).map (c :: ·)).map (l ++ ·)) := Lib.hid (by rw [HUN.out, unq_plain c u h34 h10 h92])
            clear h34 h10 h92
            go_wp2_with fail
            refine (writeByte (w.heap.size + 1) (w.heap.size + 1) _ ((c.toNat : Int)) wr HD.out (by rw [byteCells_len]; omega) hsz).mono ?_
            rintro e w1 ⟨rfl, hd1, hb1⟩
            have HD1 := Lib.hid hd1
            have HB1 := Lib.hid hb1
            clear hd1 hb1
            go_wp2_with fail
            go_roundw
            case rel => exact ⟨u, l ++ [c], rfl, by rw [HUN3.out, map_app], by simp; omega, .inr (by rw [byteCells_app]; exact HD1.out), HB.out.trans HB1.out⟩
            case measure => simp [sizeOfV, bs_size]; omega

end Go.Proofs.YtagiddbfhlokcaaGreatDoor
/- How great a float is after a product, a quotient, a conversion: the exponent's field, bounded. No condition. -/
namespace PF
open Ieee
theorem cut_le (neg : Bool) (n drop : Nat) (h : n < 2 ^ (53 + drop)) : Toward.even.cut neg n drop ≤ 2 ^ 53 := by
  unfold Toward.cut
  have hlow : n / (1 <<< min drop (n.log2 + 2)) < 2 ^ 53 := by
    rw [Nat.shiftLeft_eq, Nat.one_mul]
    by_cases hd : drop ≤ n.log2 + 2
    · rw [Nat.min_eq_left hd]
      rw [Nat.div_lt_iff_lt_mul (Nat.two_pow_pos _), ← Nat.pow_add]
      exact h
    · rw [Nat.min_eq_right (by omega)]
      have hn : n < 2 ^ (n.log2 + 2) := Nat.lt_of_lt_of_le (Nat.lt_log2_self (n := n)) (Nat.pow_le_pow_right (by omega) (by omega))
      rw [Nat.div_eq_of_lt hn]
      exact Nat.two_pow_pos _
  have hb : ∀ b : Bool, b.toNat ≤ 1 := by intro b; cases b <;> decide
  have := hb (decide (1 <<< min drop (n.log2 + 2) < 2 * (n % (1 <<< min drop (n.log2 + 2)))) || (1 <<< min drop (n.log2 + 2) == 2 * (n % (1 <<< min drop (n.log2 + 2))) && n / (1 <<< min drop (n.log2 + 2)) % 2 == 1))
  dsimp only
  omega
/-- The exponent's field is at most E. -/
def Low (x E : Nat) : Prop := x % 9223372036854775808 < (E + 1) * 4503599627370496
def Fin (x : Nat) : Prop := x % 9223372036854775808 < 9218868437227405312
theorem Low.fin {x E : Nat} (h : Low x E) (hE : E ≤ 2046) : Fin x := by
  unfold Low at h; unfold Fin; omega
theorem word_mod (neg : Bool) (r : Nat) (h : r < 9223372036854775808) : double.word neg r % 9223372036854775808 = r := by
  unfold Format.word Format.signWeight double
  split
  · show (9223372036854775808 + r) % 9223372036854775808 = r
    omega
  · exact Nat.mod_eq_of_lt h
theorem nearest_low (neg : Bool) (mag : Nat) (place : Int) (E : Nat) (hE : 2 ≤ E) (hE2 : E ≤ 2046) (h : mag ≠ 0 → place + mag.log2 + 1024 ≤ E) : Low (double.nearest neg mag place) E := by
  unfold Format.nearest
  split
  · unfold Low
    rw [word_mod _ _ (by omega)]
    omega
  · rename_i hm
    have h := h hm
    have hl : double.leastPlace = -1074 := by decide
    have hf : double.fractionBits = 52 := rfl
    have hb : double.binade = 4503599627370496 := rfl
    dsimp only
    rw [hl, hf, hb]
    obtain ⟨last, hlast⟩ : ∃ last : Int, max (place + mag.log2 - ((52 : Nat) : Int)) (-1074) = last := ⟨_, rfl⟩
    rw [hlast]
    have h1 : place + mag.log2 - 52 ≤ last := by omega
    have h2 : -1074 ≤ last := by omega
    have h3 : last + 1074 + 2 ≤ E := by omega
    have hk : Toward.even.cut neg (mag <<< (place - last).toNat) (last - place).toNat ≤ 2 ^ 53 := by
      refine cut_le _ _ _ ?_
      rw [Nat.shiftLeft_eq]
      have hm2 : mag < 2 ^ (mag.log2 + 1) := Nat.lt_log2_self
      calc mag * 2 ^ (place - last).toNat < 2 ^ (mag.log2 + 1) * 2 ^ (place - last).toNat := Nat.mul_lt_mul_of_pos_right hm2 (Nat.two_pow_pos _)
        _ = 2 ^ (mag.log2 + 1 + (place - last).toNat) := (Nat.pow_add _ _ _).symm
        _ ≤ 2 ^ (53 + (last - place).toNat) := Nat.pow_le_pow_right (by omega) (by omega)
    obtain ⟨K, hK⟩ : ∃ K, Toward.even.cut neg (mag <<< (place - last).toNat) (last - place).toNat = K := ⟨_, rfl⟩
    obtain ⟨R, hR⟩ : ∃ R, double.infRung = R := ⟨_, rfl⟩
    rw [hK] at hk ⊢
    rw [hR]
    clear hK hR hl hf hb
    unfold Low
    have hr : (last - -1074).toNat * 4503599627370496 + K ≤ E * 4503599627370496 := by omega
    rw [word_mod]
    · omega
    · have : min ((last - -1074).toNat * 4503599627370496 + K) R ≤ E * 4503599627370496 := Nat.le_trans (Nat.min_le_left _ _) hr
      omega
/-- What a word that is not great reads as. -/
theorem read_low {x E : Nat} (h : Low x E) (hE : E ≤ 2046) : ∃ s m i, double.read x = .number s m i ∧ m < 2 ^ 53 ∧ -1074 ≤ i ∧ i + 1075 ≤ max E 1 := by
  have hs : double.signWeight = 9223372036854775808 := rfl
  have hl : double.leastPlace = -1074 := by decide
  have hb : double.binade = 4503599627370496 := rfl
  have hi : double.infRung = 9218868437227405312 := rfl
  unfold Low at h
  unfold Format.read
  simp only [hs, hl, hb, hi]
  split
  · exact ⟨_, _, _, rfl, by omega, by omega, by omega⟩
  · rw [if_pos (by omega)]
    refine ⟨_, _, _, rfl, by omega, by omega, ?_⟩
    have : x % 9223372036854775808 / 4503599627370496 ≤ E := by omega
    omega
theorem log2_lt {m k : Nat} (h : m < 2 ^ k) (hm : m ≠ 0) : m.log2 < k := (Nat.log2_lt hm).2 h
theorem mul_low {x y A B E : Nat} (hx : Low x A) (hy : Low y B) (hA : A ≤ 2046) (hB : B ≤ 2046) (hE : 2 ≤ E) (hE2 : E ≤ 2046) (h : max A 1 + max B 1 ≤ E + 1021) : ∃ r, double.mul x y = some r ∧ Low r E := by
  obtain ⟨s, m, i, e1, m1, i1, i2⟩ := read_low hx hA
  obtain ⟨t, n, j, e2, m2, j1, j2⟩ := read_low hy hB
  refine ⟨_, by unfold Format.mul; rw [e1, e2]; rfl, nearest_low _ _ _ _ hE hE2 fun hmn => ?_⟩
  have hmn2 : m * n < 2 ^ 106 := by
    calc m * n < 2 ^ 53 * 2 ^ 53 := Nat.mul_lt_mul'' m1 m2
      _ = 2 ^ 106 := by decide
  have := log2_lt hmn2 hmn
  omega
theorem ofNat_low (neg : Bool) (n : Nat) (h : n < 2 ^ 64) : Low (double.nearest neg n 0) 1087 := by
  refine nearest_low _ _ _ _ (by omega) (by omega) fun hn => ?_
  have := log2_lt h hn
  omega
theorem neg_low {x E : Nat} (h : Low x E) : Low (x + 9223372036854775808) E ∧ Low (x % 9223372036854775808) E := by unfold Low at *; omega
end PF
/- A quotient's greatness; the short way of ParseFloat over a table of powers. No condition. -/
namespace PF
open Ieee
def High (x B : Nat) : Prop := B * 4503599627370496 ≤ x % 9223372036854775808
theorem read_high {x E B : Nat} (h : Low x E) (hE : E ≤ 2046) (hb : High x B) (hB : 1 ≤ B) : ∃ s m i, double.read x = .number s m i ∧ 4503599627370496 ≤ m ∧ (B : Int) ≤ i + 1075 := by
  have hs : double.signWeight = 9223372036854775808 := rfl
  have hl : double.leastPlace = -1074 := by decide
  have hbi : double.binade = 4503599627370496 := rfl
  have hi : double.infRung = 9218868437227405312 := rfl
  unfold Low at h
  unfold High at hb
  unfold Format.read
  simp only [hs, hl, hbi, hi]
  rw [if_neg (by omega), if_pos (by omega)]
  refine ⟨_, _, _, rfl, by omega, ?_⟩
  have : B ≤ x % 9223372036854775808 / 4503599627370496 := by omega
  omega
theorem quot_log {m n k : Nat} (hn : n ≠ 0) (b : Bool) (h : 2 * ((m <<< k) / n) + b.toNat ≠ 0) : (2 * ((m <<< k) / n) + b.toNat).log2 + n.log2 ≤ m.log2 + 1 + k ∨ m.log2 + 1 + k < n.log2 := by
  by_cases hc : m.log2 + 1 + k < n.log2
  · exact .inr hc
  left
  have hb : b.toNat ≤ 1 := by cases b <;> decide
  have h1 : m < 2 ^ (m.log2 + 1) := Nat.lt_log2_self
  have h2 : 2 ^ n.log2 ≤ n := Nat.log2_self_le hn
  have h3 : (m <<< k) / n < 2 ^ (m.log2 + 1 + k - n.log2) := by
    rw [Nat.shiftLeft_eq, Nat.div_lt_iff_lt_mul (by omega)]
    refine Nat.lt_of_lt_of_le (m := 2 ^ (m.log2 + 1) * 2 ^ k) (Nat.mul_lt_mul_of_pos_right h1 (Nat.two_pow_pos _)) ?_
    rw [← Nat.pow_add]
    refine Nat.le_trans ?_ (Nat.mul_le_mul_left _ h2)
    rw [← Nat.pow_add]
    exact Nat.pow_le_pow_right (by omega) (by omega)
  have h4 : 2 * ((m <<< k) / n) + b.toNat < 2 ^ (m.log2 + 1 + k - n.log2 + 1) := by
    rw [Nat.pow_succ]
    omega
  have := log2_lt h4 h
  omega
theorem div_low {x y A B C E : Nat} (hx : Low x A) (hy : Low y C) (hyb : High y B) (hA : A ≤ 2046) (hC : C ≤ 2046) (hB : 1 ≤ B) (hE : 2 ≤ E) (hE2 : E ≤ 2046) (h : max A 1 + 1025 ≤ E + B) : ∃ r, double.div x y = some r ∧ Low r E := by
  obtain ⟨s, m, i, e1, m1, i1, i2⟩ := read_low hx hA
  obtain ⟨t, n, j, e2, n1, j1⟩ := read_high hy hC hyb hB
  have hn0 : n ≠ 0 := by omega
  have e3 : (Datum.number s m i).quotient (double.fractionBits + 2) (.number t n j) = some (.number (s ^^ t) (2 * ((m <<< (double.fractionBits + 2 + n.log2 - m.log2)) / n) + ((m <<< (double.fractionBits + 2 + n.log2 - m.log2)) % n != 0).toNat) (i - j - ((double.fractionBits + 2 + n.log2 - m.log2 : Nat) : Int) - 1)) := by
    simp only [Datum.quotient]
    rw [if_neg hn0]
  refine ⟨_, by unfold Format.div; rw [e1, e2, e3]; rfl, nearest_low _ _ _ _ hE hE2 fun hmn => ?_⟩
  have hf : double.fractionBits = 52 := rfl
  rw [hf] at hmn ⊢
  have hl := quot_log hn0 _ hmn
  have hml : m.log2 ≤ 52 := by
    by_cases hm : m = 0
    · subst hm; decide
    · have := log2_lt m1 hm; omega
  have hnl : 52 ≤ n.log2 := (Nat.le_log2 hn0).2 (by omega)
  omega
def mulF (x y : Nat) : Nat := (double.mul x y).getD 0
def divF (x y : Nat) : Nat := (double.div x y).getD 0
end PF
/- The middle way of ParseFloat (scaling by a table of powers), in plain Lean, and what its answer is like. No condition. -/
namespace PF
def two64 : Nat := 18446744073709551616
def blen (n : Nat) : Nat := if n = 0 then 0 else n.log2 + 1
theorem blen_le {n : Nat} (h : n < 18446744073709551616) : blen n ≤ 64 := by
  unfold blen
  split
  · omega
  · rename_i hn
    have := (Nat.log2_lt hn).2 (show n < 2 ^ 64 by omega)
    omega
/-- log2 of a power of ten. -/
def lpow (p : Int) : Int := p * 108853 / 32768
def pE (d : Nat) (p : Int) : Int := min 1074 (53 - blen d - lpow p)
def pS (d : Nat) (p : Int) : Int := -(pE d p - (64 - blen d) + lpow p + 3)
theorem pS_ge (d : Nat) (p : Int) : 8 ≤ pS d p := by unfold pS pE; omega
/-- The scaled number, a table's cell at hand. -/
def usc (x : Nat) (c : Nat × Nat) (s : Nat) : Nat :=
  let hi := x * c.1 / two64
  let mid := x * c.1 % two64
  if hi / 2 ^ s * 2 ^ s = hi then
    let mid2 := x * c.2 / two64
    ((hi + two64 - (decide (mid < mid2)).toNat) % two64 / 2 ^ s) ||| (decide (1 < (mid + two64 - mid2) % two64)).toNat
  else (hi / 2 ^ s) ||| 1
def rnd (u : Nat) : Nat := (u + 1 + u / 4 % 2) / 4
/-- A mantissa and an exponent put together: the bits, is it too great? -/
def pack (m : Nat) (e : Int) : Nat × Bool :=
  if m / 4503599627370496 % 2 = 0 then (m, false)
  else if 972 ≤ e then ((m / 9223372036854775808 % 2) * 9223372036854775808 + 9218868437227405312, true)
  else (m - 4503599627370496 + (1075 + e).toNat * 4503599627370496, false)
def sgn (neg : Bool) : Nat := if neg then 9223372036854775808 else 0
/-- A number of at most 19 digits times a power of ten. -/
def par64 (T : Int → Nat × Nat) (d : Nat) (p : Int) (neg : Bool) : Nat × Bool :=
  if 64 ≤ pS d p then (sgn neg, false)
  else
    let u := usc (d * 2 ^ (64 - blen d) % two64) (T p) (pS d p).toNat
    let b := decide (36028797018963966 ≤ u)
    let v := if b then u / 2 ||| u % 2 else u
    pack (sgn neg + rnd v) (-(pE d p - (if b then 1 else 0)))
theorem or_lt {a b k : Nat} (ha : a < 2 ^ k) (hb : b < 2 ^ k) : a ||| b < 2 ^ k := Nat.or_lt_two_pow ha hb
theorem usc_lt (x s : Nat) (c : Nat × Nat) (hx : x < two64) (hc : c.1 < two64) (hs : 8 ≤ s) : usc x c s < 72057594037927936 := by
  have h56 : (72057594037927936 : Nat) = 2 ^ 56 := by decide
  have hdiv : ∀ y, y < two64 → y / 2 ^ s < 72057594037927936 := by
    intro y hy
    refine Nat.lt_of_le_of_lt (Nat.div_le_div_left (Nat.pow_le_pow_right (by omega) hs) (Nat.two_pow_pos _)) ?_
    unfold two64 at hy
    show y / 256 < _
    omega
  have hb : ∀ b : Bool, b.toNat < 2 ^ 56 := by intro b; cases b <;> decide
  have h64 : 0 < two64 := by decide
  unfold usc
  dsimp only
  split
  · rw [h56]
    exact or_lt (h56 ▸ hdiv _ (Nat.mod_lt _ h64)) (hb _)
  · rw [h56]
    refine or_lt (h56 ▸ hdiv _ ?_) (by decide)
    rw [Nat.div_lt_iff_lt_mul h64]
    exact Nat.mul_lt_mul'' hx hc
/-- The mantissa that comes of it, and that the answer is finite just if nothing is said. -/
def Inf (x : Nat) : Prop := x % 9223372036854775808 = 9218868437227405312
theorem pack_fin (neg : Bool) (r : Nat) (e : Int) (hr : r ≤ 9007199254740992) (he : -1074 ≤ e) : ((pack (sgn neg + r) e).2 = false → Fin (pack (sgn neg + r) e).1) ∧ ((pack (sgn neg + r) e).2 = true → Inf (pack (sgn neg + r) e).1) ∧ (pack (sgn neg + r) e).1 < 18446744073709551616 := by
  have hs : sgn neg = 0 ∨ sgn neg = 9223372036854775808 := by unfold sgn; split <;> simp
  unfold pack Fin Inf
  split
  · refine ⟨fun _ => ?_, fun h => (by cases h), ?_⟩
    · simp only; omega
    · simp only; omega
  · split
    · refine ⟨fun h => (by cases h), fun _ => ?_, ?_⟩
      · simp only; omega
      · simp only; omega
    · refine ⟨fun _ => ?_, fun h => (by cases h), ?_⟩
      · simp only; omega
      · simp only; omega
theorem half_or (u : Nat) (h : u < 72057594037927936) : u / 2 ||| u % 2 < 36028797018963968 := by
  have e : (36028797018963968 : Nat) = 2 ^ 55 := by decide
  rw [e]
  exact or_lt (by omega) (by omega)
theorem par64_fin (T : Int → Nat × Nat) (hT : ∀ p, (T p).1 < two64) (d : Nat) (p : Int) (neg : Bool) : ((par64 T d p neg).2 = false → Fin (par64 T d p neg).1) ∧ ((par64 T d p neg).2 = true → Inf (par64 T d p neg).1) ∧ (par64 T d p neg).1 < 18446744073709551616 := by
  unfold par64
  by_cases h : 64 ≤ pS d p
  · rw [if_pos h]
    refine ⟨fun _ => ?_, fun h => (by cases h), ?_⟩
    · unfold Fin sgn; simp only; split <;> omega
    · unfold sgn; simp only; split <;> omega
  · rw [if_neg h]
    have hu := usc_lt (d * 2 ^ (64 - blen d) % two64) (pS d p).toNat (T p) (Nat.mod_lt _ (by decide)) (hT p) (by have := pS_ge d p; omega)
    obtain ⟨u, hu'⟩ : ∃ u, usc (d * 2 ^ (64 - blen d) % two64) (T p) (pS d p).toNat = u := ⟨_, rfl⟩
    have he : -1074 ≤ -(pE d p) := by unfold pE; omega
    rw [hu'] at hu
    dsimp only
    rw [hu']
    have ho := half_or u hu
    by_cases hb : 36028797018963966 ≤ u
    · simp only [hb, decide_true, if_true]
      refine pack_fin neg _ _ ?_ (by omega)
      unfold rnd
      omega
    · simp only [hb, decide_false, if_false, Bool.false_eq_true]
      refine pack_fin neg _ _ ?_ (by omega)
      unfold rnd
      omega
end PF
/- The short way of ParseFloat: a product or a quotient of floats. No condition. -/
namespace PF
open Ieee
/-- The table of the 23 powers of ten, as floats. -/
def TabOk (T : Nat → Nat) : Prop := ∀ k, k ≤ 22 → Low (T k) 1096 ∧ High (T k) 1023 ∧ T k < 9223372036854775808
def e15 : Nat := 4831355200913801216
def ne15 : Nat := 14054727237768577024
def flt (man : Nat) (neg : Bool) : Nat := Go.floatOfInt .f64 (man : Int) + sgn neg
def gtF (x y : Nat) : Bool := double.order x y == some .gt
def ltF (x y : Nat) : Bool := double.order x y == some .lt
/-- With an exponent above nought. -/
def exU (T : Nat → Nat) (f : Nat) (p : Nat) : Option Nat :=
  let g := if 22 < p then mulF f (T (p - 22)) else f
  if gtF g e15 || ltF g ne15 then none else some (mulF g (T (min p 22)))
def exact64 (T : Nat → Nat) (man : Nat) (p : Int) (neg : Bool) : Option Nat :=
  if man / 4503599627370496 ≠ 0 then none
  else if p = 0 then some (flt man neg)
  else if 0 < p ∧ p ≤ 37 then exU T (flt man neg) p.toNat
  else if p < 0 ∧ -22 ≤ p then some (divF (flt man neg) (T (-p).toNat))
  else none
theorem ofInt_eq (man : Nat) : Go.floatOfInt .f64 (man : Int) = double.nearest false man 0 := by
  have : decide ((man : Int) < 0) = false := by simp
  show double.nearest (decide ((man : Int) < 0)) (man : Int).natAbs 0 = _
  rw [this, Int.natAbs_natCast]
theorem word_false_lt (r : Nat) (h : r ≤ 9218868437227405312) : double.word false r < 9223372036854775808 := by
  unfold Format.word
  simp only [Bool.false_eq_true, if_false]
  omega
theorem nearest_pos (mag : Nat) (place : Int) : double.nearest false mag place < 9223372036854775808 := by
  unfold Format.nearest
  split
  · exact word_false_lt _ (by omega)
  · have e : double.infRung = 9218868437227405312 := rfl
    dsimp only
    refine word_false_lt _ (Nat.le_trans (Nat.min_le_right _ _) (Nat.le_of_eq e))
theorem flt_low (man : Nat) (neg : Bool) (h : man < 18446744073709551616) : Low (flt man neg) 1087 ∧ flt man neg < 18446744073709551616 := by
  have h1 := ofNat_low false man h
  have h2 := nearest_pos man 0
  unfold flt
  rw [ofInt_eq]
  unfold sgn
  split
  · exact ⟨(neg_low h1).1, by omega⟩
  · exact ⟨h1, by omega⟩
theorem mulF_eq {x y A B E : Nat} (hx : Low x A) (hy : Low y B) (hA : A ≤ 2046) (hB : B ≤ 2046) (hE : 2 ≤ E) (hE2 : E ≤ 2046) (h : max A 1 + max B 1 ≤ E + 1021) : double.mul x y = some (mulF x y) ∧ Low (mulF x y) E ∧ mulF x y < 18446744073709551616 := by
  obtain ⟨r, h1, h2⟩ := mul_low hx hy hA hB hE hE2 h
  have h3 := double.mul_lt h1
  unfold mulF
  rw [h1]
  exact ⟨rfl, h2, h3⟩
theorem divF_eq {x y A B C E : Nat} (hx : Low x A) (hy : Low y C) (hyb : High y B) (hA : A ≤ 2046) (hC : C ≤ 2046) (hB : 1 ≤ B) (hE : 2 ≤ E) (hE2 : E ≤ 2046) (h : max A 1 + 1025 ≤ E + B) : double.div x y = some (divF x y) ∧ Low (divF x y) E ∧ divF x y < 18446744073709551616 := by
  obtain ⟨r, h1, h2⟩ := div_low hx hy hyb hA hC hB hE hE2 h
  have h3 := double.div_lt h1
  unfold divF
  rw [h1]
  exact ⟨rfl, h2, h3⟩
theorem exU_fin {T : Nat → Nat} (hT : TabOk T) {f p : Nat} (hf : Low f 1087) (hp : p ≤ 37) {r : Nat} (h : exU T f p = some r) : Fin r ∧ r < 18446744073709551616 := by
  unfold exU at h
  by_cases hp2 : 22 < p
  · have t1 := hT (p - 22) (by omega)
    have t2 := hT (min p 22) (by omega)
    have m1 := mulF_eq (E := 1170) hf t1.1 (by omega) (by omega) (by omega) (by omega) (by omega)
    have m2 := mulF_eq (E := 1400) m1.2.1 t2.1 (by omega) (by omega) (by omega) (by omega) (by omega)
    simp only [hp2, if_true] at h
    split at h
    · cases h
    · cases h
      exact ⟨m2.2.1.fin (by omega), m2.2.2⟩
  · have t2 := hT (min p 22) (by omega)
    have m2 := mulF_eq (E := 1400) hf t2.1 (by omega) (by omega) (by omega) (by omega) (by omega)
    simp only [hp2, if_false] at h
    split at h
    · cases h
    · cases h
      exact ⟨m2.2.1.fin (by omega), m2.2.2⟩
theorem exact64_fin {T : Nat → Nat} (hT : TabOk T) {man : Nat} {p : Int} {neg : Bool} {r : Nat} (h : exact64 T man p neg = some r) : Fin r ∧ r < 18446744073709551616 := by
  unfold exact64 at h
  split at h
  · cases h
  · rename_i hm
    have hf := flt_low man neg (by omega)
    split at h
    · cases h
      exact ⟨hf.1.fin (by omega), hf.2⟩
    · split at h
      · exact exU_fin hT hf.1 (by omega) h
      · split at h
        · cases h
          have t := hT (-p).toNat (by omega)
          have m := divF_eq (E := 1500) hf.1 t.1 t.2.1 (by omega) (by omega) (by omega) (by omega) (by omega) (by omega)
          exact ⟨m.2.1.fin (by omega), m.2.2⟩
        · cases h
end PF
/- Bits of words. No condition. -/
namespace PF
theorem and_pow (m k : Nat) : m &&& 2 ^ k = m / 2 ^ k % 2 * 2 ^ k := by
  apply Nat.eq_of_testBit_eq
  intro i
  rw [Nat.testBit_and, Nat.testBit_two_pow, Nat.testBit_mul_two_pow]
  by_cases h : k = i
  · subst h
    simp only [decide_true, Bool.and_true, Nat.le_refl, Bool.true_and, Nat.sub_self, Nat.testBit_zero, Nat.mod_mod]
    rw [← Nat.shiftRight_eq_div_pow]
    simp [Nat.testBit, Nat.one_and_eq_mod_two]
  · simp only [h, decide_false, Bool.and_false]
    by_cases h2 : k ≤ i
    · have : (m / 2 ^ k % 2).testBit (i - k) = false := Nat.testBit_lt_two_pow (Nat.lt_of_lt_of_le (Nat.mod_lt _ (by omega)) (by
        have : 2 ^ 1 ≤ 2 ^ (i - k) := Nat.pow_le_pow_right (by omega) (by omega)
        simpa using this))
      rw [this, Bool.and_false]
    · simp [h2]
theorem andNot52 (neg : Bool) (lo : Nat) (h : lo < 4503599627370496) : (sgn neg + (4503599627370496 + lo)) &&& 18442240474082181119 = sgn neg + lo := by
  have hl : lo < 2 ^ 52 := h
  have e0 : 4503599627370496 + lo = 4503599627370496 ||| lo := (Nat.two_pow_add_eq_or_of_lt hl 1)
  have hx : 4503599627370496 + lo < 2 ^ 63 := by have : (2 : Nat) ^ 63 = 9223372036854775808 := by decide
                                                 omega
  have hy : lo < 2 ^ 63 := by have : (2 : Nat) ^ 63 = 9223372036854775808 := by decide
                              omega
  have c1 : lo &&& 18442240474082181119 = lo := by
    have e1 : lo &&& 4503599627370495 = lo := by
      have := Nat.and_two_pow_sub_one_eq_mod lo 52
      rw [Nat.mod_eq_of_lt hl] at this
      exact this
    have e2 : 4503599627370495 &&& 18442240474082181119 = 4503599627370495 := by decide
    conv => lhs; rw [← e1]
    rw [Nat.and_assoc, e2, e1]
  have e3 : ∀ z, z < 2 ^ 63 → sgn neg + z = sgn neg ||| z := by
    intro z hz
    cases neg
    · simp [sgn]
    · exact Nat.two_pow_add_eq_or_of_lt hz 1
  rw [e3 _ hx, e0, e3 _ hy, Nat.and_or_distrib_right, Nat.and_or_distrib_right, c1]
  have e4 : sgn neg &&& 18442240474082181119 = sgn neg := by cases neg <;> decide
  have e5 : 4503599627370496 &&& 18442240474082181119 = 0 := by decide
  rw [e4, e5, Nat.zero_or]
theorem or_exp (neg : Bool) (lo x : Nat) (h : lo < 4503599627370496) (hx : x < 2048) : (sgn neg + lo) ||| x * 4503599627370496 = sgn neg + lo + x * 4503599627370496 := by
  have hl : lo < 2 ^ 52 := h
  have hp : (2 : Nat) ^ 63 = 9223372036854775808 := by decide
  have e3 : ∀ z, z < 2 ^ 63 → sgn neg + z = sgn neg ||| z := by
    intro z hz
    cases neg
    · simp [sgn]
    · exact Nat.two_pow_add_eq_or_of_lt hz 1
  rw [Nat.add_assoc, e3 lo (by omega), e3 (lo + x * 4503599627370496) (by omega), Nat.or_assoc]
  congr 1
  rw [Nat.or_comm, Nat.add_comm lo]
  have := Nat.two_pow_add_eq_or_of_lt hl x
  rw [Nat.mul_comm x]
  exact this.symm
theorem or_sgn (neg : Bool) (z : Nat) (h : z < 9223372036854775808) : sgn neg ||| z = sgn neg + z := by
  cases neg
  · simp [sgn]
  · exact (Nat.two_pow_add_eq_or_of_lt (i := 63) h 1).symm
theorem or_mod2 (u : Nat) : u ||| u % 2 = u := by
  rw [← Nat.and_one_is_mod]
  apply Nat.eq_of_testBit_eq
  intro i
  rw [Nat.testBit_or, Nat.testBit_and]
  cases u.testBit i <;> simp
end PF
/- The small functions of ParseFloat's middle way. No condition. -/
namespace Go.Proofs.YtagiddbfhlokcaaGreatDoor
open Go.RowKit
set_option maxRecDepth 100000
theorem lpow_walk (p : Int) (hp : -1000 ≤ p) (hp2 : p ≤ 1000) (w : World) : Calls Tryz.prog 240 #[.int .i64 p] w fun e w' => e = .returned (.int .i64 (PF.lpow p)) ∧ w = w' := by
  unfold PF.lpow
  go_enter Tryz.func240, Tryz.ntmps240
  go_wp2
  go_ret
  exact ⟨rfl, rfl⟩
theorem unmin53 (w : World) : Calls Tryz.prog 243 #[.int .u64 9007199254740992] w fun e w' => e = .returned (.int .u64 36028797018963966) ∧ w = w' := by
  go_enter Tryz.func243, Tryz.ntmps243
  go_wp2
  go_ret
  exact ⟨rfl, rfl⟩
theorem bool160 (b : Bool) (w : World) : Calls Tryz.prog 160 #[.bool b] w fun e w' => e = .returned (.int .i64 (b.toNat : Int)) ∧ w = w' := by
  cases b <;>
  · go_enter Tryz.func160, Tryz.ntmps160
    go_wp2
    go_ret
    exact ⟨rfl, rfl⟩
theorem bool213 (b : Bool) (w : World) : Calls Tryz.prog 213 #[.bool b] w fun e w' => e = .returned (.int .u64 (b.toNat : Int)) ∧ w = w' := by
  cases b <;>
  · go_enter Tryz.func213, Tryz.ntmps213
    go_wp2
    go_ret
    exact ⟨rfl, rfl⟩
theorem round245 (u : Nat) (hu : u < 72057594037927936) (w : World) : Calls Tryz.prog 245 #[.int .u64 (u : Int)] w fun e w' => e = .returned (.int .u64 (PF.rnd u : Int)) ∧ w = w' := by
  have b1 : ∀ n : Nat, n < 18446744073709551616 → bits BinOp.and IntKind.u64 (n : Int) 1 = ((n % 2 : Nat) : Int) := by
    intro n hn
    have h := bits_and_u64_nat n 1 hn (by omega)
    rw [Nat.and_one_is_mod] at h
    exact h
  have e1 : (u : Int) / 4 = ((u / 4 : Nat) : Int) := by omega
  have b2 := b1 (u / 4) (by omega)
  rw [← e1] at b2
  clear b1 e1
  unfold PF.rnd
  go_enter Tryz.func245, Tryz.ntmps245
  go_wp2
  go_ret
  refine ⟨?_, rfl⟩
  congr 2
end Go.Proofs.YtagiddbfhlokcaaGreatDoor
/- A mantissa and an exponent put together; the scaling. No condition. -/
namespace Go.Proofs.YtagiddbfhlokcaaGreatDoor
open Go.RowKit
set_option maxRecDepth 100000
theorem and52 (m : Nat) (hm : m < 18446744073709551616) : bits BinOp.and IntKind.u64 (m : Int) 4503599627370496 = ((m / 4503599627370496 % 2 * 4503599627370496 : Nat) : Int) := by
  have h := bits_and_u64_nat m 4503599627370496 hm (by omega)
  rw [PF.and_pow m 52] at h
  exact h
theorem and63 (m : Nat) (hm : m < 18446744073709551616) : bits BinOp.and IntKind.u64 (m : Int) 9223372036854775808 = ((m / 9223372036854775808 % 2 * 9223372036854775808 : Nat) : Int) := by
  have h := bits_and_u64_nat m 9223372036854775808 hm (by omega)
  rw [PF.and_pow m 63] at h
  exact h
/-- An error of the inner package: its number. -/
def errV (b : Bool) : Value := if b then .iface 189 (.int .i64 1) else .nilIface
theorem run214 (n : Int) (w : World) : (callFunc 214 #[.int .u64 n]).run Tryz.prog w = .ok (.value (.float .f64 n.toNat)) w := by
  rw [run_callFunc_extern Tryz.func214 (by kernel_rfl) (by kernel_rfl) (by kernel_rfl) (e := Extern.MathFloatBits.float64frombits) (by kernel_rfl)]
  rfl
theorem pack247 (neg : Bool) (r : Nat) (hr : r ≤ 9007199254740992) (e : Int) (h1 : -1074 ≤ e) (h2 : e ≤ 5000) (w : World) :
    Calls Tryz.prog 247 #[.int .u64 ((PF.sgn neg + r : Nat) : Int), .int .i64 e] w fun x w' => x = .returned (.tuple #[.float .f64 (PF.pack (PF.sgn neg + r) e).1, errV (PF.pack (PF.sgn neg + r) e).2]) ∧ w = w' := by
  have hs : PF.sgn neg = 0 ∨ PF.sgn neg = 9223372036854775808 := by cases neg <;> simp [PF.sgn]
  have h214 := run214
  have hm := and52 (PF.sgn neg + r) (by omega)
  by_cases hc : (PF.sgn neg + r) / 4503599627370496 % 2 = 0
  · have hp : PF.pack (PF.sgn neg + r) e = (PF.sgn neg + r, false) := by unfold PF.pack; rw [if_pos hc]
    rw [hp]
    rw [hc] at hm
    obtain ⟨m, hmm⟩ : ∃ m, PF.sgn neg + r = m := ⟨_, rfl⟩
    rw [hmm] at hm ⊢
    clear hp hc hs hmm
    unfold errV
    go_enter Tryz.func247, Tryz.ntmps247
    go_wp2_with fail
    go_ret2
    exact ⟨rfl, rfl⟩
  · have hc1 : (PF.sgn neg + r) / 4503599627370496 % 2 = 1 := by omega
    rw [hc1] at hm
    by_cases he : 972 ≤ e
    · have hp : PF.pack (PF.sgn neg + r) e = ((PF.sgn neg + r) / 9223372036854775808 % 2 * 9223372036854775808 + 9218868437227405312, true) := by unfold PF.pack; rw [if_neg hc, if_pos he]
      rw [hp]
      have h63 := and63 (PF.sgn neg + r) (by omega)
      have hor : bits BinOp.or IntKind.u64 (((PF.sgn neg + r) / 9223372036854775808 % 2 * 9223372036854775808 : Nat) : Int) 9218868437227405312 = (((PF.sgn neg + r) / 9223372036854775808 % 2 * 9223372036854775808 + 9218868437227405312 : Nat) : Int) := by
        have e1 : (PF.sgn neg + r) / 9223372036854775808 % 2 * 9223372036854775808 = PF.sgn neg := by omega
        rw [e1]
        have := bits_or_u64_nat (PF.sgn neg) 9218868437227405312 (by omega) (by omega)
        rw [PF.or_sgn neg _ (by omega)] at this
        exact this
      obtain ⟨q, hq⟩ : ∃ q, (PF.sgn neg + r) / 9223372036854775808 % 2 * 9223372036854775808 = q := ⟨_, rfl⟩
      rw [hq] at h63 hor ⊢
      obtain ⟨m, hmm⟩ : ∃ m, PF.sgn neg + r = m := ⟨_, rfl⟩
      rw [hmm] at hm h63 ⊢
      obtain ⟨z, hz⟩ : ∃ z, q + 9218868437227405312 = z := ⟨_, rfl⟩
      rw [hz] at hor ⊢
      clear hp hc hc1 hs hmm hq hz
      unfold errV
      go_enter Tryz.func247, Tryz.ntmps247
      go_wp2_with fail
      go_ret2
      exact ⟨rfl, rfl⟩
    · have hp : PF.pack (PF.sgn neg + r) e = (PF.sgn neg + r - 4503599627370496 + (1075 + e).toNat * 4503599627370496, false) := by unfold PF.pack; rw [if_neg hc, if_neg he]
      rw [hp]
      obtain ⟨lo, rfl, hlo⟩ : ∃ lo, r = 4503599627370496 + lo ∧ lo < 4503599627370496 := ⟨r - 4503599627370496, by omega, by omega⟩
      have ha : bits BinOp.andNot IntKind.u64 ((PF.sgn neg + (4503599627370496 + lo) : Nat) : Int) 4503599627370496 = ((PF.sgn neg + lo : Nat) : Int) := by
        have h := u64_andNot_nat (PF.sgn neg + (4503599627370496 + lo)) 4503599627370496 (by omega) (by omega)
        have e : (18446744073709551615 - 4503599627370496 : Nat) = 18442240474082181119 := by decide
        rw [e, PF.andNot52 neg lo hlo] at h
        exact h
      obtain ⟨x, hx⟩ : ∃ x, (1075 + e).toNat = x := ⟨_, rfl⟩
      have ho : bits BinOp.or IntKind.u64 ((PF.sgn neg + lo : Nat) : Int) ((x * 4503599627370496 : Nat) : Int) = ((PF.sgn neg + (4503599627370496 + lo) - 4503599627370496 + x * 4503599627370496 : Nat) : Int) := by
        have := bits_or_u64_nat (PF.sgn neg + lo) (x * 4503599627370496) (by omega) (by omega)
        rw [PF.or_exp neg lo x hlo (by omega)] at this
        have e : PF.sgn neg + lo + x * 4503599627370496 = PF.sgn neg + (4503599627370496 + lo) - 4503599627370496 + x * 4503599627370496 := by omega
        exact this.trans (congrArg (fun n : Nat => (n : Int)) e)
      have hw : (1075 + e) * 4503599627370496 = ((x * 4503599627370496 : Nat) : Int) := by omega
      rw [hx]
      obtain ⟨z, hz⟩ : ∃ z, PF.sgn neg + (4503599627370496 + lo) - 4503599627370496 + x * 4503599627370496 = z := ⟨_, rfl⟩
      obtain ⟨y, hy⟩ : ∃ y, x * 4503599627370496 = y := ⟨_, rfl⟩
      obtain ⟨a, ha'⟩ : ∃ a, PF.sgn neg + lo = a := ⟨_, rfl⟩
      obtain ⟨m, hmm⟩ : ∃ m, PF.sgn neg + (4503599627370496 + lo) = m := ⟨_, rfl⟩
      rw [hz] at ho ⊢
      rw [hy] at ho hw
      rw [ha'] at ha ho
      rw [hmm] at hm ha ⊢
      have hy2 : y < 18446744073709551616 := by omega
      clear hp hc1 hc hr hs hz ha' hmm hy hx hlo lo neg x
      unfold errV
      go_enter Tryz.func247, Tryz.ntmps247
      go_wp2_with fail
      go_ret2
      exact ⟨rfl, rfl⟩
end Go.Proofs.YtagiddbfhlokcaaGreatDoor
/- The table's cell for an exponent; the scaling. Condition: the cells of the table of powers. -/
namespace Go.Proofs.YtagiddbfhlokcaaGreatDoor
open Go.RowKit
set_option maxRecDepth 100000
structure Pow (T : Nat → Nat × Nat) (w : World) : Prop where
  c0 : ∀ k : Nat, k < 696 → w.cell? ⟨15, k * 2, none⟩ = some (.int .u64 ((T k).1 : Int))
  c1 : ∀ k : Nat, k < 696 → w.cell? ⟨15, k * 2 + 1, none⟩ = some (.int .u64 ((T k).2 : Int))
def Pre (w : World) (b : Nat) (x y z : Value) : Prop := w.heap[b]? = some (.cells #[x, y, z] 306 (0, 0))
theorem Pre.c0 {w : World} {b : Nat} {x y z : Value} (h : Pre w b x y z) : w.cell? ⟨b, 0, none⟩ = some x := by rw [Lib.cell_of_heap h]; rfl
theorem Pre.c1 {w : World} {b : Nat} {x y z : Value} (h : Pre w b x y z) : w.cell? ⟨b, 1, none⟩ = some y := by rw [Lib.cell_of_heap h]; rfl
theorem Pre.c2 {w : World} {b : Nat} {x y z : Value} (h : Pre w b x y z) : w.cell? ⟨b, 2, none⟩ = some z := by rw [Lib.cell_of_heap h]; rfl
theorem Pre.set0 {w : World} {b : Nat} {x y z : Value} (h : Pre w b x y z) (v : Value) : Pre (w.setCell ⟨b, 0, none⟩ v) b v y z := Joins.block_setCell (i := 0) h v
theorem Pre.set1 {w : World} {b : Nat} {x y z : Value} (h : Pre w b x y z) (v : Value) : Pre (w.setCell ⟨b, 1, none⟩ v) b x v z := Joins.block_setCell (i := 1) h v
theorem Pre.set2 {w : World} {b : Nat} {x y z : Value} (h : Pre w b x y z) (v : Value) : Pre (w.setCell ⟨b, 2, none⟩ v) b x y v := Joins.block_setCell (i := 2) h v
theorem Pow.set {T : Nat → Nat × Nat} {w : World} {b i : Nat} (h : Pow T w) (hb : 15 < b) (v : Value) : Pow T (w.setCell ⟨b, i, none⟩ v) :=
  ⟨fun k hk => by rw [World.cell?_setCell_far _ _ _ _ (by simp; omega)]; exact h.c0 k hk, fun k hk => by rw [World.cell?_setCell_far _ _ _ _ (by simp; omega)]; exact h.c1 k hk⟩
theorem prescale241 (T : Nat → Nat × Nat) (k : Nat) (hk : k < 696) (e lp : Int) (he : -100000 ≤ e) (he2 : e ≤ 100000) (hl : -100000 ≤ lp) (hl2 : lp ≤ 100000) (w : World) (b : Nat) (x y z : Value) (h : Pre w b x y z) (hp : Pow T w) (hb : 15 < b) :
    Calls Tryz.prog 241 #[.pointer (some ⟨b, 0, none⟩), .int .i64 e, .int .i64 ((k : Int) - 348), .int .i64 lp] w fun x w' => x = .returned (.tuple #[]) ∧ Pre w' b (.int .u64 ((T k).1 : Int)) (.int .u64 ((T k).2 : Int)) (.int .i64 (-(e + lp + 3))) ∧ Below b w w' := by
  have p0 := hp.c0 k hk
  have c0 := h.c0
  have h1 := h.set0 (.int .u64 ((T k).1 : Int))
  have p1 := (hp.set (i := 0) hb (.int .u64 ((T k).1 : Int))).c1 k hk
  have c1 := h1.c1
  have h2 := h1.set1 (.int .u64 ((T k).2 : Int))
  have c2 := h2.c2
  have f0 := Lib.frozen_of_heap h 0
  have f1 := Lib.frozen_of_heap h1 1
  have f2 := Lib.frozen_of_heap h2 2
  have H3 := Lib.hid (h2.set2 (.int .i64 (-(e + lp + 3))))
  have k1 : (k : Int) - 348 - -348 = (k : Int) := by omega
  clear h h1 h2 hp
  go_enter Tryz.func241, Tryz.ntmps241
  go_wp2
  go_end0
  exact ⟨rfl, H3.out, (((Below.refl b w).setCell (p := ⟨b, 0, none⟩) (Nat.le_refl _) _).setCell (p := ⟨b, 1, none⟩) (Nat.le_refl _) _).setCell (p := ⟨b, 2, none⟩) (Nat.le_refl _) _⟩
end Go.Proofs.YtagiddbfhlokcaaGreatDoor
/- The scaled product. No condition. -/
namespace Go.Proofs.YtagiddbfhlokcaaGreatDoor
open Go.RowKit
set_option maxRecDepth 100000
theorem and63i : ∀ s : Fin 64, bits BinOp.and IntKind.i64 (s.val : Int) 63 = (s.val : Int) := by decide +kernel
theorem bool213q (b : Bool) (w : World) (n : Nat) : Calls Tryz.prog 213 #[.bool b] (w.drewN n) fun e w' => e = .returned (.int .u64 (b.toNat : Int)) ∧ ∃ m, w' = w.drewN m :=
  (bool213 b (w.drewN n)).mono fun _ _ ⟨h1, h2⟩ => ⟨h1, n, h2.symm⟩
theorem mulv (x y : Nat) (hx : x < 18446744073709551616) (hy : y < 18446744073709551616) (w : World) (hi lo : Nat) (h1 : x * y / PF.two64 = hi) (h2 : x * y % PF.two64 = lo) :
    Calls Tryz.prog 271 #[.int .u64 (x : Int), .int .u64 (y : Int)] w fun e w' => e = .returned (.tuple #[.int .u64 (hi : Int), .int .u64 (lo : Int)]) ∧ w = w' := by
  refine (Tryz.bits_Mul64 x y hx hy w).mono ?_
  rintro e w' ⟨rfl, h⟩
  subst h1 h2
  exact ⟨rfl, h.symm⟩
theorem uscale242 (x c1 c2 s : Nat) (hx : x < 18446744073709551616) (hc1 : c1 < 18446744073709551616) (hc2 : c2 < 18446744073709551616) (hs : s < 64) (w : World) (b : Nat) (h : Pre w b (.int .u64 (c1 : Int)) (.int .u64 (c2 : Int)) (.int .i64 (s : Int))) :
    Calls Tryz.prog 242 #[.int .u64 (x : Int), .pointer (some ⟨b, 0, none⟩)] w fun e w' => e = .returned (.int .u64 (PF.usc x (c1, c2) s : Int)) ∧ ∃ n, w' = w.drewN n := by
  have k0 := h.c0
  have k1 := h.c1
  have k2 := h.c2
  have b7 := and63i ⟨s, hs⟩
  simp only at b7
  obtain ⟨hi, h1⟩ : ∃ hi, x * c1 / PF.two64 = hi := ⟨_, rfl⟩
  obtain ⟨mid, h2⟩ : ∃ mid, x * c1 % PF.two64 = mid := ⟨_, rfl⟩
  obtain ⟨mid2, h3⟩ : ∃ mid2, x * c2 / PF.two64 = mid2 := ⟨_, rfl⟩
  obtain ⟨lo2, h4⟩ : ∃ lo2, x * c2 % PF.two64 = lo2 := ⟨_, rfl⟩
  have m1 := fun w => mulv x c1 hx hc1 w hi mid h1 h2
  have m2 := fun w => mulv x c2 hx hc2 w mid2 lo2 h3 h4
  have M1 := Lib.hid m1
  have M2 := Lib.hid m2
  have t64 : PF.two64 = 18446744073709551616 := rfl
  have lhi : hi < 18446744073709551616 := by
    rw [← h1, t64, Nat.div_lt_iff_lt_mul (by omega)]
    exact Nat.mul_lt_mul'' hx hc1
  have lmid : mid < 18446744073709551616 := by rw [← h2]; exact Nat.mod_lt _ (by decide)
  have lmid2 : mid2 < 18446744073709551616 := by
    rw [← h3, t64, Nat.div_lt_iff_lt_mul (by omega)]
    exact Nat.mul_lt_mul'' hx hc2
  unfold PF.usc
  dsimp only
  rw [h1, h2, h3]
  clear h m1 m2 h1 h2 h3 h4
  obtain ⟨q, hq⟩ : ∃ q : Nat, hi / 2 ^ s = q := ⟨_, rfl⟩
  have p2 : 0 < 2 ^ s := Nat.two_pow_pos s
  have lq : q ≤ hi := by rw [← hq]; exact Nat.div_le_self _ _
  have qi : (hi : Int) / 2 ^ s = (q : Int) := by rw [← hq]; norm_cast
  have ql : q * 2 ^ s ≤ hi := by rw [← hq]; exact Nat.div_mul_le_self _ _
  obtain ⟨r, hr⟩ : ∃ r : Nat, q * 2 ^ s = r := ⟨_, rfl⟩
  have wr : IntKind.u64.wrap ((q : Int) * 2 ^ s) = (r : Int) := by
    have e : (q : Int) * 2 ^ s = (r : Int) := by rw [← hr]; norm_cast
    rw [e, IntKind.wrap_u64]
    omega
  rw [hq, hr]
  rw [hr] at ql
  by_cases hc : r = hi
  · rw [if_pos hc]
    subst hc
    obtain ⟨g, hg⟩ : ∃ g : Nat, (r + PF.two64 - (decide (mid < mid2)).toNat) % PF.two64 = g := ⟨_, rfl⟩
    obtain ⟨q2, hq2⟩ : ∃ q2 : Nat, g / 2 ^ s = q2 := ⟨_, rfl⟩
    obtain ⟨d, hd⟩ : ∃ d : Nat, (mid + PF.two64 - mid2) % PF.two64 = d := ⟨_, rfl⟩
    rw [hg, hq2, hd]
    have lg : g < 18446744073709551616 := by rw [← hg]; exact Nat.mod_lt _ (by decide)
    have lq2 : q2 ≤ g := by rw [← hq2]; exact Nat.div_le_self _ _
    have q2i : (g : Int) / 2 ^ s = (q2 : Int) := by rw [← hq2]; norm_cast
    have bt : (decide (mid < mid2)).toNat ≤ 1 := by cases decide (mid < mid2) <;> decide
    have wg : IntKind.u64.wrap ((r : Int) - ((decide (mid < mid2)).toNat : Int)) = (g : Int) := by
      rw [IntKind.wrap_u64, ← hg, t64]
      omega
    have wd : IntKind.u64.wrap ((mid : Int) - (mid2 : Int)) = (d : Int) := by
      rw [IntKind.wrap_u64, ← hd, t64]
      omega
    have bt2 : (decide (1 < d)).toNat ≤ 1 := by cases decide (1 < d) <;> decide
    have bo := bits_or_u64_nat q2 (decide (1 < d)).toNat (by omega) (by omega)
    obtain ⟨B2, hB2⟩ : ∃ B, decide (1 < d) = B := ⟨_, rfl⟩
    have hb2 : decide ((1 : Int) < (d : Int)) = B2 := by rw [← hB2]; exact decide_eq_decide.2 (by omega)
    have ht : ((r : Int) != (r : Int)) = false := by simp
    rw [hB2] at bo ⊢
    clear hg hq2 hd bt bt2 hB2 hr hq p2 t64
    go_enter Tryz.func242, Tryz.ntmps242
    go_wp2_with fail
    refine (M1.out _).mono ?_
    rintro e w' ⟨rfl, rfl⟩
    go_wp2_with fail
    refine (M2.out _).mono ?_
    rintro e w' ⟨rfl, rfl⟩
    go_wp2_with fail
    refine (bool213 _ _).mono ?_
    rintro e w' ⟨rfl, rfl⟩
    go_wp2_with fail
    go_quiet ((go_at_call 213; exact bool213q _ _ _))
    go_wp2_with fail
    go_ret
    exact ⟨rfl, _, rfl⟩
  · rw [if_neg hc]
    have ht : ((r : Int) != (hi : Int)) = true := by simp; omega
    have bo : bits BinOp.or IntKind.u64 (q : Int) 1 = ((q ||| 1 : Nat) : Int) := bits_or_u64_nat q 1 (by omega) (by omega)
    clear hr hq p2 t64
    go_enter Tryz.func242, Tryz.ntmps242
    go_wp2_with fail
    refine (M1.out _).mono ?_
    rintro e w' ⟨rfl, rfl⟩
    go_wp2_with fail
    go_ret
    exact ⟨by rfl, 0, rfl⟩
end Go.Proofs.YtagiddbfhlokcaaGreatDoor
/- A number of at most 19 digits times a power of ten. Condition: the cells of the table of powers. -/
namespace Go.Proofs.YtagiddbfhlokcaaGreatDoor
open Go.RowKit
set_option maxRecDepth 100000
theorem blen_eq : ∀ n : Nat, n < 18446744073709551616 → Lib.bitLen n = PF.blen n := by
  intro n
  induction n using Nat.strongRecOn with
  | ind n ih =>
    intro h
    by_cases h0 : n = 0
    · subst h0; decide
    · rw [Lib.bitLen_half n h0 h, ih (n / 2) (by omega) (by omega)]
      unfold PF.blen
      rw [if_neg h0]
      by_cases h1 : n / 2 = 0
      · have : n = 1 := by omega
        subst this
        decide
      · rw [if_neg h1, Nat.log2_def n, if_pos (by omega)]
        omega
theorem len132 (d : Nat) (hd : d < 18446744073709551616) (b : Nat) (hb : PF.blen d = b) (w : World) : Calls Tryz.prog 132 #[.int .u64 (d : Int)] w fun e w' => e = .returned (.int .i64 (b : Int)) ∧ w = w' := by
  refine (Tryz.bits_Len64 (d : Int) w (by omega) (by omega)).mono ?_
  rintro e w' ⟨rfl, h⟩
  rw [Int.toNat_natCast, blen_eq d hd, hb]
  exact ⟨rfl, h.symm⟩
def tabF (T : Nat → Nat × Nat) (p : Int) : Nat × Nat := T (p + 348).toNat
def TabLt (T : Nat → Nat × Nat) : Prop := ∀ k, (T k).1 < 18446744073709551616 ∧ (T k).2 < 18446744073709551616
set_option maxHeartbeats 1000000 in
theorem par216 (T : Nat → Nat × Nat) (hT : TabLt T) (d : Nat) (hd : d < 18446744073709551616) (p : Int) (hp : -345 ≤ p) (hp2 : p ≤ 310) (neg : Bool) (w : World) (hw : Pow T w) (h15 : 15 < w.heap.size) :
    Calls Tryz.prog 216 #[.int .u64 (d : Int), .int .i64 p, .int .u64 ((PF.sgn neg : Nat) : Int)] w fun x w' => x = .returned (.tuple #[.float .f64 (PF.par64 (tabF T) d p neg).1, errV (PF.par64 (tabF T) d p neg).2]) ∧ Below w.heap.size w w' := by
  obtain ⟨k, hk, hk2⟩ : ∃ k : Nat, p = (k : Int) - 348 ∧ k < 696 := ⟨(p + 348).toNat, by omega, by omega⟩
  obtain ⟨b, hb⟩ : ∃ b, PF.blen d = b := ⟨_, rfl⟩
  have hb64 : b ≤ 64 := by rw [← hb]; exact PF.blen_le hd
  obtain ⟨L, hL⟩ : ∃ L, PF.lpow p = L := ⟨_, rfl⟩
  have hL1 : -1200 ≤ L := by rw [← hL]; unfold PF.lpow; omega
  have hL2 : L ≤ 1200 := by rw [← hL]; unfold PF.lpow; omega
  obtain ⟨E, hE⟩ : ∃ E, PF.pE d p = E := ⟨_, rfl⟩
  have hE2 : min (1074 : Int) (53 - (b : Int) - L) = E := by rw [← hE]; unfold PF.pE; rw [hb, hL]
  have hE3 : E ≤ 1074 := by omega
  have hE4 : -1300 ≤ E := by omega
  obtain ⟨c, hc⟩ : ∃ c : Nat, 64 - b = c := ⟨_, rfl⟩
  have hc2 : 64 - (b : Int) = (c : Int) := by omega
  obtain ⟨S, hS⟩ : ∃ S, PF.pS d p = S := ⟨_, rfl⟩
  have hS2 : -(E - (c : Int) + L + 3) = S := by rw [← hS]; unfold PF.pS; rw [hE, hb, hL, hc2]
  have hS8 : 8 ≤ S := by rw [← hS]; exact PF.pS_ge d p
  have m132 := fun w => len132 d hd b hb w
  have m240 := fun w => lpow_walk p (by omega) (by omega) w
  rw [hL] at m240
  have hpre : Pre (w.alloc (.cells #[.int .u64 0, .int .u64 0, .int .i64 0] 306)) w.heap.size (.int .u64 0) (.int .u64 0) (.int .i64 0) := heap_alloc_new w _
  have hpow : Pow T (w.alloc (.cells #[.int .u64 0, .int .u64 0, .int .i64 0] 306)) := ⟨fun k hk => (((Below.refl _ _).alloc (Nat.le_refl _) _).cell (p := ⟨15, k * 2, none⟩) h15).trans (hw.c0 k hk), fun k hk => (((Below.refl _ _).alloc (Nat.le_refl _) _).cell (p := ⟨15, k * 2 + 1, none⟩) h15).trans (hw.c1 k hk)⟩
  have m241 := prescale241 T k hk2 (E - (c : Int)) L (by omega) (by omega) (by omega) (by omega) _ _ _ _ _ hpre hpow h15
  rw [hS2, ← hk] at m241
  have M132 := Lib.hid m132
  have M240 := Lib.hid m240
  have M241 := Lib.hid m241
  have h214 := run214
  have hT1 := hT k
  have ek : tabF T p = T k := by unfold tabF; congr 1; omega
  have os : bits BinOp.or IntKind.u64 ((PF.sgn neg : Nat) : Int) 0 = ((PF.sgn neg : Nat) : Int) := by
    have h := bits_or_u64_nat (PF.sgn neg) 0 (by cases neg <;> simp [PF.sgn]) (by omega)
    rw [Nat.or_zero] at h
    exact h
  have hsg : PF.sgn neg < 18446744073709551616 := by cases neg <;> simp [PF.sgn]
  by_cases hS64 : 64 ≤ S
  · have e : PF.par64 (tabF T) d p neg = (PF.sgn neg, false) := by unfold PF.par64; rw [hS, if_pos hS64]
    rw [e]
    obtain ⟨sg, hsg'⟩ : ∃ sg, PF.sgn neg = sg := ⟨_, rfl⟩
    rw [hsg'] at os ⊢
    clear e hsg hsg' hT hT1 ek m132 m240 m241 hpre hpow hw hS hE hb hL hc hp hp2 hk hk2
    unfold errV
    go_enter Tryz.func216, Tryz.ntmps216
    go_wp2_with fail
    refine (M132.out _).mono ?_
    rintro e w' ⟨rfl, rfl⟩
    go_wp2_with fail
    refine (M240.out _).mono ?_
    rintro e w' ⟨rfl, rfl⟩
    go_wp2_with fail
    refine M241.out.mono ?_
    rintro e w1 ⟨rfl, h1, hb1⟩
    have HB := Lib.hid (((Below.refl w.heap.size w).alloc (Nat.le_refl _) _).trans hb1)
    have c2 := h1.c2
    clear h1 hb1
    go_wp2_with fail
    go_ret2
    exact ⟨by rfl, HB.out⟩
  · obtain ⟨s, rfl⟩ : ∃ s : Nat, S = s := ⟨S.toNat, by omega⟩
    have hs64 : s < 64 := by omega
    obtain ⟨x, hx⟩ : ∃ x : Nat, d * 2 ^ c % 18446744073709551616 = x := ⟨_, rfl⟩
    have lx : x < 18446744073709551616 := by rw [← hx]; exact Nat.mod_lt _ (by omega)
    have wx : IntKind.u64.wrap ((d : Int) * 2 ^ c) = (x : Int) := by
      have e : (d : Int) * 2 ^ c = ((d * 2 ^ c : Nat) : Int) := by norm_cast
      rw [e, IntKind.wrap_u64, ← hx]
      obtain ⟨z, hz⟩ : ∃ z : Nat, d * 2 ^ c = z := ⟨_, rfl⟩
      rw [hz]
      omega
    obtain ⟨u, hu⟩ : ∃ u : Nat, PF.usc x (T k) s = u := ⟨_, rfl⟩
    have lu : u < 72057594037927936 := by rw [← hu]; exact PF.usc_lt x s (T k) lx hT1.1 (by omega)
    have m242 := fun w' h => uscale242 x (T k).1 (T k).2 s lx hT1.1 hT1.2 hs64 w' w.heap.size h
    obtain ⟨v, hv⟩ : ∃ v : Nat, (if decide (36028797018963966 ≤ u) then u / 2 ||| u % 2 else u) = v := ⟨_, rfl⟩
    obtain ⟨e', he'⟩ : ∃ e' : Int, -(E - (if decide (36028797018963966 ≤ u) then 1 else 0)) = e' := ⟨_, rfl⟩
    have e : PF.par64 (tabF T) d p neg = PF.pack (PF.sgn neg + PF.rnd v) e' := by
      unfold PF.par64
      rw [hS, if_neg hS64, ek, hb, hE, hc]
      have t64 : PF.two64 = 18446744073709551616 := rfl
      dsimp only
      rw [t64, hx, Int.toNat_natCast, hu, hv, he']
    rw [e]
    have lv : v < 36028797018963968 ∧ -1074 ≤ e' ∧ e' ≤ 5000 := by
      rw [← hv, ← he']
      by_cases hB : 36028797018963966 ≤ u
      · simp only [hB, decide_true, if_true]
        exact ⟨PF.half_or u lu, by omega, by omega⟩
      · simp only [hB, decide_false, if_false, Bool.false_eq_true]
        exact ⟨by omega, by omega, by omega⟩
    obtain ⟨r, hr⟩ : ∃ r : Nat, PF.rnd v = r := ⟨_, rfl⟩
    have lr : r ≤ 9007199254740992 := by rw [← hr]; unfold PF.rnd; omega
    have m245 := fun w => round245 v (by omega) w
    have m247 := fun w => pack247 neg r lr e' lv.2.1 lv.2.2 w
    rw [hr] at m245 ⊢
    have om : bits BinOp.or IntKind.u64 ((PF.sgn neg : Nat) : Int) (r : Int) = ((PF.sgn neg + r : Nat) : Int) := by
      have h := bits_or_u64_nat (PF.sgn neg) r hsg (by omega)
      rw [PF.or_sgn neg r (by omega)] at h
      exact h
    obtain ⟨res, hres⟩ : ∃ res, PF.pack (PF.sgn neg + r) e' = res := ⟨_, rfl⟩
    obtain ⟨m, hm⟩ : ∃ m, PF.sgn neg + r = m := ⟨_, rfl⟩
    rw [hres] at m247 ⊢
    rw [hm] at m247 om
    obtain ⟨sg, hsg'⟩ : ∃ sg, PF.sgn neg = sg := ⟨_, rfl⟩
    rw [hsg'] at om ⊢
    have M242 := Lib.hid m242
    have M245 := Lib.hid m245
    have M247 := Lib.hid m247
    have a1 : bits BinOp.and IntKind.u64 (u : Int) 1 = ((u % 2 : Nat) : Int) := by
      have h := bits_and_u64_nat u 1 (by omega) (by omega)
      rw [Nat.and_one_is_mod] at h
      exact h
    obtain ⟨y, hy⟩ : ∃ y : Nat, u % 2 = y := ⟨_, rfl⟩
    rw [hy] at a1 hv
    have m160t := bool160 true
    have m160f := bool160 false
    have HU := Lib.hid hu
    by_cases hB : 36028797018963966 ≤ u
    · simp only [hB, decide_true, if_true] at hv he'
      obtain ⟨q, hq⟩ : ∃ q : Nat, u / 2 = q := ⟨_, rfl⟩
      have qi : (u : Int) / 2 = (q : Int) := by omega
      have vo := bits_or_u64_nat q y (by omega) (by omega)
      rw [hq] at hv
      rw [hv] at vo
      have hBi : (36028797018963966 : Int) ≤ (u : Int) := by omega
      have ee : -(E - 1) = e' := he'
      clear hsg hsg' hT hT1 ek m132 m240 m241 hpre hpow hw hS hE hb hL hc hp hp2 hk hk2 m242 m245 m247 hres hm hr hv he' e hx lv lr hB hq hy hu os
      go_enter Tryz.func216, Tryz.ntmps216
      go_wp2_with fail
      refine (M132.out _).mono ?_
      rintro e w' ⟨rfl, rfl⟩
      go_wp2_with fail
      refine (M240.out _).mono ?_
      rintro e w' ⟨rfl, rfl⟩
      go_wp2_with fail
      refine M241.out.mono ?_
      rintro e w1 ⟨rfl, h1, hb1⟩
      have HB := Lib.hid (((Below.refl w.heap.size w).alloc (Nat.le_refl _) _).trans hb1)
      have c2 := h1.c2
      have H1 := Lib.hid h1
      clear h1 hb1
      go_wp2_with fail
      refine (M242.out _ H1.out).mono ?_
      rintro e w2 ⟨rfl, n, rfl⟩
      have hu := HU.out
      rw [show ((T k).1, (T k).2) = T k from rfl, hu]
      clear hu
      go_wp2_with fail
      refine (unmin53 _).mono ?_
      rintro e w' ⟨rfl, rfl⟩
      go_wp2_with fail
      refine (m160t _).mono ?_
      rintro e w' ⟨rfl, rfl⟩
      go_wp2_with fail
      refine (M245.out _).mono ?_
      rintro e w' ⟨rfl, rfl⟩
      go_wp2_with fail
      refine (M247.out _).mono ?_
      rintro e w' ⟨rfl, rfl⟩
      go_wp2_with fail
      go_ret2
      exact ⟨by rfl, below_drewN HB.out n⟩
    · simp only [hB, decide_false, if_false, Bool.false_eq_true] at hv he'
      have vo := bits_or_u64_nat u y (by omega) (by omega)
      have uo : u ||| y = u := by rw [← hy]; exact PF.or_mod2 u
      rw [uo] at vo
      subst hv
      have hBi : decide ((36028797018963966 : Int) ≤ (u : Int)) = false := decide_eq_false (by omega)
      have ee : -(E - 0) = e' := he'
      rw [Int.sub_zero] at ee
      clear hsg hsg' hT hT1 ek m132 m240 m241 hpre hpow hw hS hE hb hL hc hp hp2 hk hk2 m242 m245 m247 hres hm hr he' e hx lv lr hB hy hu os uo
      go_enter Tryz.func216, Tryz.ntmps216
      go_wp2_with fail
      refine (M132.out _).mono ?_
      rintro e w' ⟨rfl, rfl⟩
      go_wp2_with fail
      refine (M240.out _).mono ?_
      rintro e w' ⟨rfl, rfl⟩
      go_wp2_with fail
      refine M241.out.mono ?_
      rintro e w1 ⟨rfl, h1, hb1⟩
      have HB := Lib.hid (((Below.refl w.heap.size w).alloc (Nat.le_refl _) _).trans hb1)
      have c2 := h1.c2
      have H1 := Lib.hid h1
      clear h1 hb1
      go_wp2_with fail
      refine (M242.out _ H1.out).mono ?_
      rintro e w2 ⟨rfl, n, rfl⟩
      have hu := HU.out
      rw [show ((T k).1, (T k).2) = T k from rfl, hu]
      clear hu
      go_wp2_with fail
      refine (unmin53 _).mono ?_
      rintro e w' ⟨rfl, rfl⟩
      go_wp2_with fail
      refine (m160f _).mono ?_
      rintro e w' ⟨rfl, rfl⟩
      go_wp2_with fail
      refine (M245.out _).mono ?_
      rintro e w' ⟨rfl, rfl⟩
      go_wp2_with fail
      refine (M247.out _).mono ?_
      rintro e w' ⟨rfl, rfl⟩
      go_wp2_with fail
      go_ret2
      exact ⟨by rfl, below_drewN HB.out n⟩
end Go.Proofs.YtagiddbfhlokcaaGreatDoor
/- A float's sign turned. No condition. -/
namespace PF
theorem xor63 (x : Nat) (h : x < 9223372036854775808) : x ^^^ 9223372036854775808 = x + 9223372036854775808 := by
  have hl : x < 2 ^ 63 := h
  have e : x + 9223372036854775808 = x ||| 2 ^ 63 := by
    rw [Nat.or_comm, Nat.add_comm]
    exact Nat.two_pow_add_eq_or_of_lt hl 1
  rw [e]
  show x ^^^ 2 ^ 63 = _
  apply Nat.eq_of_testBit_eq
  intro i
  rw [Nat.testBit_xor, Nat.testBit_or, Nat.testBit_two_pow]
  by_cases hi : 63 = i
  · subst hi
    rw [Nat.testBit_lt_two_pow hl]
    simp
  · simp [hi]
end PF
