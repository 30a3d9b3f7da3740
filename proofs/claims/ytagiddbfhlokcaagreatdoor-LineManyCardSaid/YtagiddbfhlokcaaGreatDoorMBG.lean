/- Several texts of this proof, laid together. Conditions: as each says. -/
import Derived.Test.YtagiddbfhlokcaaGreatDoorMBD
import Derived.Test.YtagiddbfhlokcaaGreatDoorMBF
import Derived.Lib.ItoaLen
import Derived.Test.YtagiddbfhlokcaaGreatDoorMAK
import Derived.Test.YtagiddbfhlokcaaGreatDoorMAN
/- The reference's text of a value. Conditions: the tables of powers. -/
namespace Go.Proofs.YtagiddbfhlokcaaGreatDoor.Ff
open Go.RowKit Go.Sort Ser
set_option maxRecDepth 100000
/-- 64 bits as a signed number. -/
def sg64 (x : Nat) : Int := if x < 9223372036854775808 then (x : Int) else (x : Int) - 18446744073709551616
theorem sg64_wrap (x : Nat) (hx : x < 18446744073709551616) : IntKind.i64.wrap (x : Int) = sg64 x ∧ -9223372036854775808 ≤ sg64 x ∧ sg64 x ≤ 9223372036854775807 := by
  unfold sg64
  rw [IntKind.wrap_i64]
  split <;> omega
/-- The text of a value that is formed. -/
def pv (T : Nat → Nat × Nat) (k : Int) (x : Nat) (t : ByteArray) : List UInt8 :=
  if k = 1 then PF.flText (tabF T) x else if k = 2 then Lib.itoa (sg64 x) ++ [105] else if k = 3 then (if x = 1 then [116, 114, 117, 101] else [102, 97, 108, 115, 101]) else PF.quoted t.data.toList
theorem formInt_30 (n : Int) (h0 : -9223372036854775808 ≤ n) (h1 : n ≤ 9223372036854775807) (w : World) (htab : Lib.TabIs Tryz.prog w "internal/strconv.uint64pow10" .u64 Lib.pow10Tab) :
    Calls Tryz.prog 30 #[.int .i64 n, .int .i64 10] w fun e w' => e = .returned (.string (bs (Lib.itoa n))) ∧ Below w.heap.size w w' := by
  refine (Tryz.strconv_FormatInt_10 n h0 h1 w htab).mono ?_
  rintro e w' ⟨rfl, k, os, rfl⟩
  exact ⟨rfl, grow_bel _ _ _⟩
theorem itoa_len20 {n : Int} (h0 : -9223372036854775808 ≤ n) (h1 : n ≤ 9223372036854775807) : (Lib.itoa n).length ≤ 21 := by
  unfold Lib.itoa
  split
  · rw [List.length_cons, Lib.decDigits_length]
    have := Lib.nDigits_le20 n.natAbs (by omega)
    omega
  · rw [Lib.decDigits_length]
    have := Lib.nDigits_le20 n.toNat (by omega)
    omega
def RPost (T : Nat → Nat × Nat) (k : Int) (x : Nat) (t : ByteArray) (w : World) (e : Ending) (w' : World) : Prop :=
  e = .returned (.tuple #[.string (if formV k (x : Int) t then bs (pv T k x t) else ⟨#[]⟩), .int .i64 (if formV k (x : Int) t then 0 else 1)]) ∧ Below w.heap.size w w'
end Go.Proofs.YtagiddbfhlokcaaGreatDoor.Ff
/- A value's text read again, the plain parts. Condition: the tables of powers (for floats). -/
namespace PF
open Go
theorem take_app {A r : List UInt8} (h : A.all isDig = true) : (A ++ r).takeWhile isDig = A ++ r.takeWhile isDig := by
  induction A with
  | nil => rfl
  | cons c A ih =>
    rw [List.all_cons, Bool.and_eq_true] at h
    rw [List.cons_append, List.takeWhile_cons, if_pos h.1, ih h.2, List.cons_append]
theorem drop_app {A r : List UInt8} (h : A.all isDig = true) : (A ++ r).dropWhile isDig = r.dropWhile isDig := by
  induction A with
  | nil => rfl
  | cons c A ih =>
    rw [List.all_cons, Bool.and_eq_true] at h
    rw [List.cons_append, List.dropWhile_cons, if_pos h.1, ih h.2]
theorem app_ne {A r : List UInt8} (h : A ≠ []) : (A ++ r).isEmpty = false := by
  cases A with
  | nil => exact absurd rfl h
  | cons c A => rfl
theorem okM_num {A r : List UInt8} (h : A.all isDig = true) (hne : A ≠ []) (hr : r.dropWhile isDig = r) : okM false false (A ++ r) = tailM r := by
  rw [okM_parts, take_app h, drop_app h, hr, app_ne hne]
  rfl
theorem tail_dot {B r : List UInt8} (h : B.all isDig = true) (hne : B ≠ []) (hr : r.dropWhile isDig = r) : tailM (46 :: (B ++ r)) = tailE r := by
  have e : tailM (46 :: (B ++ r)) = (!((B ++ r).takeWhile isDig).isEmpty && tailE ((B ++ r).dropWhile isDig)) := rfl
  rw [e, take_app h, drop_app h, hr, app_ne hne]
  rfl
theorem dec_ne (u : Nat) : Lib.decDigits u ≠ [] := by
  unfold Lib.decDigits
  split <;> simp
theorem okD_dec (u : Nat) : okD (Lib.decDigits u) = true := by
  unfold okD
  rw [(dec_num u).2]
  cases h : Lib.decDigits u with
  | nil => exact absurd h (dec_ne u)
  | cons c r => rfl
theorem okX_itoa (X : Int) : okX (Lib.itoa X) = true := by
  have key : ∀ u : Nat, okX (Lib.decDigits u) = true := by
    intro u
    have h1 := okD_dec u
    have h2 := (dec_num u).2
    cases h : Lib.decDigits u with
    | nil => exact absurd h (dec_ne u)
    | cons c r =>
      rw [h] at h1 h2
      rw [List.all_cons, Bool.and_eq_true] at h2
      show (if c = 43 ∨ c = 45 then okD r else okD (c :: r)) = true
      rw [if_neg]
      · exact h1
      · rintro (e | e) <;> · rw [e] at h2; exact absurd h2.1 (by decide)
  unfold Lib.itoa
  split
  · exact okD_dec _
  · exact key _
/-- What stands in a float's text. -/
def isNumE (c : UInt8) : Bool := isNum c || decide (c = 101)
theorem dig_numE {c : UInt8} (h : isDig c = true) : isNumE c = true := by unfold isNumE; rw [isDig_num h]; rfl
theorem digs_numE {l : List UInt8} (h : l.all isDig = true) : l.all isNumE = true := List.all_eq_true.2 fun x hx => dig_numE (List.all_eq_true.1 h x hx)
theorem itoa_numE (X : Int) : (Lib.itoa X).all isNumE = true := by
  unfold Lib.itoa
  split
  · rw [List.all_cons, digs_numE (dec_num _).2]; rfl
  · exact digs_numE (dec_num _).2
theorem sgT_numE (neg : Bool) : (sgT neg).all isNumE = true := by cases neg <;> rfl
theorem zeros_dig (z : Nat) : (List.replicate z (48 : UInt8)).all isDig = true := by
  rw [List.all_eq_true]
  intro x hx
  rw [List.eq_of_mem_replicate hx]
  rfl
theorem gTx_ok (neg : Bool) {G : List UInt8} (X : Int) (hG : G.all isDig = true) (hne : G ≠ []) : okM false false (body (gTx neg G X)) = true ∧ (gTx neg G X).all isNumE = true ∧ gTx neg G X ≠ [] := by
  obtain ⟨c, t, rfl⟩ : ∃ c t, G = c :: t := by
    cases G with
    | nil => exact absurd rfl hne
    | cons c t => exact ⟨c, t, rfl⟩
  have hG2 := hG
  rw [List.all_cons, Bool.and_eq_true] at hG2
  obtain ⟨hc, ht⟩ := hG2
  have hzE := digs_numE (zeros_dig (-X - 1).toNat)
  have hzF := digs_numE (zeros_dig (X + 1 - (c :: t).length).toNat)
  have htE := digs_numE ht
  have hGE := digs_numE hG
  have hcE := dig_numE hc
  have hs := sgT_numE neg
  have hi := itoa_numE X
  unfold gTx
  split
  · unfold gM
    rw [List.headD_cons, List.tail_cons]
    split
    · rename_i h2
      have htn : t ≠ [] := by rintro rfl; simp at h2
      refine ⟨?_, ?_, by simp⟩
      · rw [show sgT neg ++ (c :: 46 :: t ++ 101 :: Lib.itoa X) = sgT neg ++ c :: (46 :: (t ++ 101 :: Lib.itoa X)) from by simp, (sg_read neg hc).2.2]
        have e := okM_num (A := [c]) (r := 46 :: (t ++ 101 :: Lib.itoa X)) (by rw [List.all_cons, hc]; rfl) (by simp) rfl
        rw [List.singleton_append] at e
        rw [e, tail_dot ht htn rfl]
        exact okX_itoa X
      · simp only [List.all_append, List.all_cons, hs, hcE, htE, hi]
        rfl
    · refine ⟨?_, ?_, by simp⟩
      · rw [show sgT neg ++ (c :: [] ++ 101 :: Lib.itoa X) = sgT neg ++ c :: (101 :: Lib.itoa X) from by simp, (sg_read neg hc).2.2]
        have e := okM_num (A := [c]) (r := 101 :: Lib.itoa X) (by rw [List.all_cons, hc]; rfl) (by simp) rfl
        rw [List.singleton_append] at e
        rw [e]
        exact okX_itoa X
      · simp only [List.all_append, List.all_cons, hs, hcE, hi]
        rfl
  · split
    · refine ⟨?_, ?_, by simp⟩
      · rw [(sg_read neg (c := 48) rfl).2.2]
        have e := okM_num (A := [48]) (r := 46 :: ((List.replicate (-X - 1).toNat 48 ++ (c :: t)) ++ [])) rfl (by simp) rfl
        rw [List.singleton_append, List.append_nil] at e
        have e2 := tail_dot (B := List.replicate (-X - 1).toNat 48 ++ (c :: t)) (r := []) (by rw [List.all_append, zeros_dig, hG]; rfl) (by simp) rfl
        rw [List.append_nil] at e2
        rw [e, e2]
        rfl
      · simp only [List.all_append, List.all_cons, hs, hcE, htE, hzE]
        rfl
    · split
      · refine ⟨?_, ?_, by simp⟩
        · rw [List.cons_append, (sg_read neg hc).2.2]
          have e := okM_num (A := c :: (t ++ List.replicate (X + 1 - (c :: t).length).toNat 48)) (r := []) (by rw [List.all_cons, List.all_append, zeros_dig, hc, ht]; rfl) (by simp) rfl
          rw [List.append_nil] at e
          rw [e]
          rfl
        · simp only [List.all_append, List.all_cons, hs, hcE, htE, hzF]
          rfl
      · rename_i h1 h2 h3
        have hX : 0 ≤ X := by omega
        obtain ⟨n, hn⟩ : ∃ n, (X + 1).toNat = n + 1 := ⟨X.toNat, by omega⟩
        have hl : n + 1 < (c :: t).length := by omega
        rw [hn, List.take_succ_cons, List.drop_succ_cons]
        have e1 : (t.take n).all isDig = true := List.all_eq_true.2 fun x hx => List.all_eq_true.1 ht x (List.mem_of_mem_take hx)
        have e2 : (t.drop n).all isDig = true := List.all_eq_true.2 fun x hx => List.all_eq_true.1 ht x (List.mem_of_mem_drop hx)
        have e3 : t.drop n ≠ [] := by
          intro e
          have := congrArg List.length e
          simp at this hl
          omega
        refine ⟨?_, ?_, by simp⟩
        · rw [List.cons_append, (sg_read neg hc).2.2]
          have e := okM_num (A := c :: t.take n) (r := 46 :: (t.drop n ++ [])) (by rw [List.all_cons, hc, e1]; rfl) (by simp) rfl
          rw [List.append_nil, List.cons_append] at e
          have e4 := tail_dot (r := []) e2 e3 rfl
          rw [List.append_nil] at e4
          rw [e, e4]
          rfl
        · simp only [List.all_append, List.all_cons, hs, hcE, digs_numE e1, digs_numE e2]
          rfl
/-- A float's text is read as a float. -/
theorem flText_dec {T : Int → Nat × Nat} (hT : TabPow T) {x : Nat} (hfin : Fin x) : decB (flText T x) = true ∧ (flText T x).all isNumE = true ∧ flText T x ≠ [] := by
  unfold Fin at hfin
  obtain ⟨a, b, b1, b2, b3, _⟩ := fDec_any hT (r := x % 9223372036854775808) (by omega)
  have hl := flTx_len (decide (9223372036854775808 ≤ x)) b (by omega) (by omega) b3
  unfold flText
  unfold decB
  rw [decide_eq_true (show (flTx (decide (9223372036854775808 ≤ x)) (fDec T (x % 9223372036854775808)).1 (fDec T (x % 9223372036854775808)).2).length ≤ 400 by omega), Bool.and_true, flTx_g _ b3]
  refine gTx_ok _ _ ?_ ?_
  · unfold gD; split
    · rfl
    · exact a
  · unfold gD; split
    · simp
    · assumption
theorem all_no {l : List UInt8} {c : UInt8} (h : l.all isNumE = true) (hc : isNumE c = false) : c ∉ l := by
  intro hm
  rw [List.all_eq_true.1 h c hm] at hc
  cases hc
theorem suf_no {l : List UInt8} {c : UInt8} (h : c ∉ l) : Lib.hasSuffix l [c] = false := by
  unfold Lib.hasSuffix
  rw [Bool.eq_false_iff]
  intro e
  rw [List.isSuffixOf_iff_suffix] at e
  exact h (e.subset (by simp))
theorem suf_yes (l : List UInt8) (c : UInt8) : Lib.hasSuffix (l ++ [c]) [c] = true ∧ Lib.trimSuffix (l ++ [c]) [c] = l := by
  have h : Lib.hasSuffix (l ++ [c]) [c] = true := by
    unfold Lib.hasSuffix
    rw [List.isSuffixOf_iff_suffix]
    exact List.suffix_append _ _
  refine ⟨h, ?_⟩
  unfold Lib.trimSuffix
  rw [if_pos h]
  simp
/-- An integer's text is read as it was. -/
theorem intP_itoa {n : Int} (h0 : -9223372036854775808 ≤ n) (h1 : n ≤ 9223372036854775807) : intP (Lib.itoa n) = (n, 0) := by
  have hl := fun (u : Nat) (hu : u < 18446744073709551616) => Lib.nDigits_le20 u hu
  have hne := fun u : Nat => List.length_pos_iff.2 (dec_ne u)
  unfold Lib.itoa
  split
  · have e1 := dec_num n.natAbs
    have e2 := body_neg (Lib.decDigits n.natAbs)
    have e3 := hl n.natAbs (by omega)
    rw [← Lib.decDigits_length] at e3
    unfold intP
    rw [e2.1, e2.2, e1.1, if_pos ⟨hne _, by omega, e1.2⟩, if_pos rfl, if_pos (by omega)]
    congr 1
    omega
  · have e1 := dec_num n.toNat
    have e2 : body (Lib.decDigits n.toNat) = Lib.decDigits n.toNat ∧ isNeg (Lib.decDigits n.toNat) = false := by
      cases h : Lib.decDigits n.toNat with
      | nil => exact absurd h (dec_ne _)
      | cons c r =>
        rw [h, List.all_cons, Bool.and_eq_true] at e1
        exact body_dig e1.2.1
    have e3 := hl n.toNat (by omega)
    rw [← Lib.decDigits_length] at e3
    unfold intP
    rw [e2.1, e2.2, e1.1, if_pos ⟨hne _, by omega, e1.2⟩, if_neg (by decide), if_pos (by omega)]
    congr 1
    omega
theorem unq_plain' (c : UInt8) (t : List UInt8) (ht : t ≠ []) (h1 : c ≠ 34) (h2 : c ≠ 10) (h3 : c ≠ 92) : unq (c :: t) = (unq t).map (c :: ·) := by
  cases t with
  | nil => exact absurd rfl ht
  | cons d t =>
    conv => lhs; unfold unq
    rw [if_neg (fun e => e.elim h1 h2), if_neg h3]
/-- A quoted text is read as it was. -/
theorem unq_quo : ∀ t : List UInt8, unq (quo t ++ [34]) = some t
  | [] => rfl
  | c :: t => by
    have ih := unq_quo t
    have e : quo (c :: t) = q1 c ++ quo t := rfl
    rw [e, List.append_assoc]
    have hne : quo t ++ [34] ≠ [] := by simp
    by_cases h1 : c = 34
    · subst h1
      show unq (92 :: 34 :: (quo t ++ [34])) = _
      conv => lhs; unfold unq
      rw [if_neg (by decide), if_pos rfl, if_pos (.inl rfl), ih]
      rfl
    · by_cases h2 : c = 92
      · subst h2
        show unq (92 :: 92 :: (quo t ++ [34])) = _
        conv => lhs; unfold unq
        rw [if_neg (by decide), if_pos rfl, if_pos (.inr rfl), ih]
        rfl
      · by_cases h3 : c = 10
        · subst h3
          show unq (92 :: 110 :: (quo t ++ [34])) = _
          conv => lhs; unfold unq
          rw [if_neg (by decide), if_pos rfl, if_neg (by decide), if_pos rfl, ih]
          rfl
        · have e1 : q1 c = [c] := by unfold q1; rw [if_neg h1, if_neg h2, if_neg h3]
          rw [e1, List.singleton_append, unq_plain' c _ hne h1 h3 h2, ih]
          rfl
end PF
/- A value's text is read as the value. Conditions: the tables of powers; that the value is formed. -/
namespace Go.Proofs.YtagiddbfhlokcaaGreatDoor.Ff
open Go.RowKit Go.Sort Ser
set_option maxRecDepth 100000
theorem none_text {t : ByteArray} (h : t.toList.isEmpty = true) : t = ⟨#[]⟩ := by
  rw [Lib.toList_data] at h
  cases t with
  | mk d =>
    simp at h
    subst h
    rfl
theorem truth_no {l : List UInt8} (h : l.all PF.isNumE = true) : ¬ l ∈ trues ∧ ¬ l ∈ falses := by
  have key : (trues ++ falses).all (fun t => !t.all PF.isNumE) = true := by decide
  rw [List.all_append, Bool.and_eq_true, List.all_eq_true, List.all_eq_true] at key
  refine ⟨fun e => ?_, fun e => ?_⟩
  · have := key.1 l e; rw [h] at this; cases this
  · have := key.2 l e; rw [h] at this; cases this
theorem head_no34 {l : List UInt8} (h : l.all PF.isNumE = true) : headIs 34 l = false := by
  cases l with
  | nil => rfl
  | cons c r =>
    refine head_no (c := 34) fun t e => ?_
    injection e with e _
    rw [e, List.all_cons, Bool.and_eq_true] at h
    exact absurd h.1 (by decide)
theorem fin_of {x : Nat} (h : finB (x : Int) = true) : PF.Fin x := by
  obtain ⟨f1, f2, f3⟩ := finB_cases x
  rcases PF.sorts x with g | g | g
  · exact g
  · rw [f2 g] at h; cases h
  · rw [f3 g] at h; cases h
theorem int_text (z : Int) : (Lib.itoa z ++ [105]) ∉ trues ∧ (Lib.itoa z ++ [105]) ∉ falses ∧ headIs 34 (Lib.itoa z ++ [105]) = false := by
  have key : (trues ++ falses).all (fun t => !t.contains 105) = true := by decide
  rw [List.all_append, Bool.and_eq_true, List.all_eq_true, List.all_eq_true] at key
  have hm : (Lib.itoa z ++ [105]).contains 105 = true := by simp
  refine ⟨fun e => ?_, fun e => ?_, ?_⟩
  · have := key.1 _ e; rw [hm] at this; cases this
  · have := key.2 _ e; rw [hm] at this; cases this
  · have hn := PF.itoa_numE z
    cases hi : Lib.itoa z with
    | nil => rfl
    | cons c r =>
      rw [hi, List.all_cons, Bool.and_eq_true] at hn
      refine head_no (c := 34) fun t e => ?_
      injection e with e _
      rw [e] at hn
      exact absurd hn.1 (by decide)
theorem quo_text (t : List UInt8) : PF.quoted t ∉ trues ∧ PF.quoted t ∉ falses ∧ headIs 34 (PF.quoted t) = true := by
  have key : (trues ++ falses).all (fun t => !headIs 34 t) = true := by decide
  rw [List.all_append, Bool.and_eq_true, List.all_eq_true, List.all_eq_true] at key
  have hm : headIs 34 (PF.quoted t) = true := by unfold PF.quoted headIs; rfl
  refine ⟨fun e => ?_, fun e => ?_, hm⟩
  · have := key.1 _ e; rw [hm] at this; cases this
  · have := key.2 _ e; rw [hm] at this; cases this
theorem pv_1 (T : Nat → Nat × Nat) (x : Nat) (t : ByteArray) : pv T 1 x t = PF.flText (tabF T) x := by unfold pv; rw [if_pos rfl]
theorem pv_2 (T : Nat → Nat × Nat) (x : Nat) (t : ByteArray) : pv T 2 x t = Lib.itoa (sg64 x) ++ [105] := by unfold pv; rw [if_neg (by decide), if_pos rfl]
theorem pv_3 (T : Nat → Nat × Nat) (x : Nat) (t : ByteArray) : pv T 3 x t = if x = 1 then [116, 114, 117, 101] else [102, 97, 108, 115, 101] := by unfold pv; rw [if_neg (by decide), if_neg (by decide), if_pos rfl]
theorem pv_4 (T : Nat → Nat × Nat) (x : Nat) (t : ByteArray) : pv T 4 x t = PF.quoted t.data.toList := by unfold pv; rw [if_neg (by decide), if_neg (by decide), if_neg (by decide)]
/-- PRINTED AND READ AGAIN. -/
theorem valP_pv {T : Nat → Nat × Nat} {F : Nat → Nat} (hP : PF.TabPow (tabF T)) (hF : PF.TabTen F) {k : Int} {x : Nat} {t : ByteArray} (hx : x < 18446744073709551616) (h : formV k (x : Int) t = true) : valP (tabF T) F (pv T k x t) = (val k (x : Int) t, 0) := by
  by_cases h1 : k = 1
  · subst h1
    rw [formV_1, Bool.and_eq_true] at h
    have hfin := fin_of h.2
    rw [none_text h.1]
    obtain ⟨a, b, c⟩ := PF.flText_dec hP hfin
    obtain ⟨n1, n2⟩ := truth_no b
    rw [pv_1]
    unfold valP
    rw [if_neg n1, if_neg n2, head_no34 b, if_neg (by decide), PF.suf_no (PF.all_no b (by decide)), if_neg (by decide), if_pos a, PF.float_back hP hF hx hfin]
    rfl
  · by_cases h2 : k = 2
    · subst h2
      rw [formV_2] at h
      rw [none_text h]
      obtain ⟨s1, s2, s3⟩ := sg64_wrap x hx
      obtain ⟨n1, n2, n3⟩ := int_text (sg64 x)
      obtain ⟨e1, e2⟩ := PF.suf_yes (Lib.itoa (sg64 x)) 105
      have e3 : IntKind.wrap .u64 (sg64 x) = (x : Int) := by
        have e4 : IntKind.wrap .u64 (sg64 x) = sg64 x % 18446744073709551616 := rfl
        rw [e4]
        unfold sg64
        split <;> omega
      rw [pv_2]
      unfold valP
      rw [if_neg n1, if_neg n2, n3, if_neg (by decide), e1, if_pos rfl, e2, PF.intP_itoa s2 s3, if_pos rfl, e3]
    · by_cases h3 : k = 3
      · subst h3
        rw [formV_3, Bool.and_eq_true, decide_eq_true_eq] at h
        rw [none_text h.1]
        rw [pv_3]
        by_cases hx1 : x = 1
        · subst hx1
          rw [if_pos rfl]
          unfold valP
          rw [if_pos (by decide)]
          rfl
        · have hx0 : x = 0 := by omega
          subst hx0
          rw [if_neg (by decide)]
          unfold valP
          rw [if_neg (by decide), if_pos (by decide)]
          rfl
      · by_cases h4 : k = 4
        · subst h4
          rw [formV_4, Bool.and_eq_true, decide_eq_true_eq, decide_eq_true_eq] at h
          obtain ⟨hx0, hsz⟩ := h
          obtain ⟨n1, n2, n3⟩ := quo_text t.data.toList
          have hu : PF.unq (PF.quoted t.data.toList).tail = some t.data.toList := PF.unq_quo _
          have hlen : ¬ 65536 < t.data.toList.length := by
            have : t.data.toList.length = t.size := Array.length_toList
            omega
          rw [pv_4]
          unfold valP
          rw [if_neg n1, if_neg n2, n3, if_pos rfl, hu]
          unfold unqV
          simp only
          rw [if_neg hlen, hx0, ← bs_eta]
        · rw [formV_o k _ t h1 h2 h3 h4] at h
          cases h
end Go.Proofs.YtagiddbfhlokcaaGreatDoor.Ff
/- A value's text by the program. Conditions: the tables of powers. -/
namespace Go.Proofs.YtagiddbfhlokcaaGreatDoor.Ff
open Go.RowKit Go.Sort Ser Rp
set_option maxRecDepth 100000
theorem six_new (w : World) : Six (w.alloc (.cells #[.string ⟨#[92]⟩, .string ⟨#[92, 92]⟩, .string ⟨#[34]⟩, .string ⟨#[92, 34]⟩, .string ⟨#[10]⟩, .string ⟨#[92, 110]⟩] 9)) w.heap.size := by
  refine ⟨by simp, ?_, ?_, ?_, ?_, ?_, ?_⟩ <;> simp
theorem quoted_bs (l : List UInt8) : (⟨#[34]⟩ : ByteArray) ++ bs (PF.quo l) ++ ⟨#[34]⟩ = bs (PF.quoted l) := by
  have h1 : (⟨#[34]⟩ : ByteArray) = bs [34] := rfl
  rw [h1, bs_app, bs_app]
  rfl
theorem six_drew {w : World} {b : Nat} (h : Six w b) : Six w.drew b := ⟨h.lt, h.c0, h.c1, h.c2, h.c3, h.c4, h.c5⟩
set_option maxHeartbeats 4000000 in
theorem vprint_27 (T : Nat → Nat × Nat) (hT : TabLt T) (hP : PF.TabPow (tabF T)) (k : Int) (x : Nat) (t : ByteArray) (hx : x < 18446744073709551616) (w0 : World) (henv : FEnv T w0) (h8 : 15 < w0.heap.size) :
    Calls Tryz.prog 27 #[.agg #[.int .i64 k, .int .u64 (x : Int), .string t]] w0 (RPost T k x t w0) := by
  obtain ⟨P, hPP⟩ : ∃ P, RPost T k x t w0 = P := ⟨_, rfl⟩
  rw [hPP]
  have HPP := Lib.hid hPP
  have HE := Lib.hid henv
  have H8 := Lib.hid h8
  have HT := Lib.hid hT
  have HTP := Lib.hid hP
  have M59 := Lib.hid (fun w => formed59 k x t hx w)
  have HBX := Lib.hid (fun c => (Below.refl w0.heap.size w0).alloc (Nat.le_refl _) c)
  have z0 : (w0.alloc (.cells #[.int .i64 k, .int .u64 (x : Int), .string t] 53)).cell? ⟨w0.heap.size, 0, none⟩ = some (.int .i64 k) := by simp
  have z1 : (w0.alloc (.cells #[.int .i64 k, .int .u64 (x : Int), .string t] 53)).cell? ⟨w0.heap.size, 1, none⟩ = some (.int .u64 (x : Int)) := by simp
  have z2 : (w0.alloc (.cells #[.int .i64 k, .int .u64 (x : Int), .string t] 53)).cell? ⟨w0.heap.size, 2, none⟩ = some (.string t) := by simp
  have Z := Lib.hid (And.intro z0 (And.intro z1 z2))
  clear hPP henv h8 hT hP z0 z1 z2
  go_enter Tryz.func27, Tryz.ntmps27
  go_wp2_with fail
  refine (M59.out _).mono ?_
  rintro e w2 ⟨rfl, hb2⟩
  have hsz : w0.heap.size < (w0.alloc (.cells #[.int .i64 k, .int .u64 (x : Int), .string t] 53)).heap.size := by simp
  have c0 := (hb2.cell (p := ⟨w0.heap.size, 0, none⟩) hsz).trans Z.out.1
  have c1 := (hb2.cell (p := ⟨w0.heap.size, 1, none⟩) hsz).trans Z.out.2.1
  have c2 := (hb2.cell (p := ⟨w0.heap.size, 2, none⟩) hsz).trans Z.out.2.2
  have HB2 := Lib.hid ((HBX.out (.cells #[.int .i64 k, .int .u64 (x : Int), .string t] 53)).trans (hb2.mono (Nat.le_of_lt hsz)))
  have HE2 := Lib.hid (HE.out.later HB2.out H8.out)
  have H82 := Lib.hid (Nat.lt_of_lt_of_le H8.out HB2.out.size)
  obtain ⟨r, hr⟩ : ∃ r, formV k (x : Int) t = r := ⟨_, rfl⟩
  rw [hr]
  have HR := Lib.hid hr
  have HSZ : Hid (w0.heap.size < w2.heap.size) := Lib.hid (Nat.lt_of_lt_of_le hsz hb2.size)
  clear hb2 hsz hr
  have HX := Lib.hid hx
  clear hx
  cases r with
  | false =>
    go_wp2_with fail
    rw [← HPP.out]
    unfold RPost
    rw [HR.out]
    exact ⟨rfl, HB2.out⟩
  | true =>
    by_cases h1 : k = 1
    · subst h1
      have hfin : PF.Fin x := by
        have h := HR.out
        rw [formV_1, Bool.and_eq_true] at h
        obtain ⟨f1, f2, f3⟩ := finB_cases x
        rcases PF.sorts x with g | g | g
        · exact g
        · rw [f2 g] at h; exact absurd h.2 (by decide)
        · rw [f3 g] at h; exact absurd h.2 (by decide)
      have M65 := Lib.hid (float_65 T HT.out HTP.out x HX.out hfin w2 HE2.out H82.out)
      have h66 := run66 x
      clear hfin
      go_wp2_with fail
      refine M65.out.mono ?_
      rintro e w3 ⟨rfl, hb3⟩
      have HB3 := Lib.hid (HB2.out.trans (hb3.mono HB2.out.size))
      clear hb3
      go_wp2_with fail
      rw [← HPP.out]
      unfold RPost
      rw [HR.out]
      exact ⟨rfl, HB3.out⟩
    · by_cases h2 : k = 2
      · subst h2
        obtain ⟨s1, s2, s3⟩ := sg64_wrap x HX.out
        have M30 := Lib.hid (formInt_30 (sg64 x) s2 s3 w2 HE2.out.tab)
        have sI : (bs (Lib.itoa (sg64 x))).size ≤ 21 := by rw [bs_size]; exact itoa_len20 s2 s3
        clear s2 s3
        go_wp2_with fail
        refine M30.out.mono ?_
        rintro e w3 ⟨rfl, hb3⟩
        have HB3 := Lib.hid (HB2.out.trans (hb3.mono HB2.out.size))
        clear hb3
        go_wp2_with fail
        rw [← HPP.out]
        unfold RPost
        rw [HR.out]
        exact ⟨congrArg (fun z => Ending.returned (Value.tuple #[.string z, .int .i64 0])) (bs_app _ [105]), HB3.out⟩
      · by_cases h3 : k = 3
        · subst h3
          obtain ⟨bb, hbb⟩ : ∃ bb, ((x : Int) == 1) = bb := ⟨_, rfl⟩
          have HBB : Hid (bs (pv T 3 x t) = ⟨(Lib.formatBool bb).toArray⟩) := Lib.hid (by
            unfold pv
            rw [if_neg (by decide), if_neg (by decide), if_pos rfl, ← hbb]
            by_cases hx1 : x = 1
            · rw [hx1]; rfl
            · rw [if_neg hx1, beq_eq_false_iff_ne.2 (show (x : Int) ≠ 1 by omega)]; rfl)
          go_wp2_with (go_at_call 67; refine (Tryz.strconv_FormatBool bb _).mono ?_; rintro e w3 ⟨rfl, rfl⟩)
          rw [← HPP.out]
          unfold RPost
          rw [HR.out, if_pos rfl, HBB.out]
          exact ⟨rfl, HB2.out⟩
        · have h4 : k = 4 := by
            refine Classical.byContradiction fun h4 => ?_
            have h := HR.out
            rw [formV_o k _ t h1 h2 h3 h4] at h
            cases h
          subst h4
          have hl : t.size ≤ 65536 := by
            have h := HR.out
            rw [formV_4, Bool.and_eq_true, decide_eq_true_eq, decide_eq_true_eq] at h
            exact h.2
          have hl2 : t.data.toList.length ≤ 70000 := Nat.le_trans (Nat.le_of_eq (Array.length_toList)) (Nat.le_trans hl (by decide))
          obtain ⟨l, hlt⟩ : ∃ l, t.data.toList = l := ⟨_, rfl⟩
          have htl : t = bs l := by rw [← hlt]; exact bs_eta t
          rw [hlt] at hl2
          subst htl
          have HL2 := Lib.hid hl2
          have hbl : w0.heap.size < w2.heap.size := by have := HB2.out.size; have := HSZ.out; omega
          have sQ : (bs (PF.quo l)).size ≤ 140000 := by rw [bs_size]; have := PF.quo_len l; omega
          have HN2 : Hid (∀ c, Below w2.heap.size w2 (w2.alloc c).drew) := Lib.hid (fun c => ((Below.refl w2.heap.size w2).alloc (Nat.le_refl _) c).drew)
          clear h1 h2 h3 hl hl2 hlt
          go_wp2_with fail
          go_region_with (first
            | (go_at_call 68; refine (new_68 w2.heap.size _ (six_drew (six_new _))).mono ?_; rintro e w3 ⟨rb, bo, oc, rfl, hb3, hge, hraw⟩; have c3 := (hb3.cell (p := ⟨w0.heap.size, 2, none⟩) (Nat.lt_of_lt_of_le hbl (HN2.out _).size)).trans (((HN2.out _).cell (p := ⟨w0.heap.size, 2, none⟩) hbl).trans c2); have hge2 := Nat.le_trans (HN2.out _).size hge; have HB3 := Lib.hid ((HN2.out _).trans (hb3.mono (HN2.out _).size)); clear hb3 hge)
            | (go_at_call 69; refine (replace_69 w2.heap.size rb bo oc l HL2.out _ hge2 hraw).mono ?_; rintro e w4 ⟨rfl, hb4⟩; have HB4 := Lib.hid hb4; clear hb4))
          all_goals
            go_wp2_with fail
            go_ret2
            rw [← HPP.out]
            unfold RPost
            rw [HR.out, if_pos rfl, if_pos rfl, pv_4, bs_list, ← quoted_bs]
            exact ⟨rfl, HB2.out.trans ((HB3.out.trans HB4.out).mono HB2.out.size)⟩
end Go.Proofs.YtagiddbfhlokcaaGreatDoor.Ff
