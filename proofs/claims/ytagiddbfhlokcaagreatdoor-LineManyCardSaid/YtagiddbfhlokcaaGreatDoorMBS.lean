/- Several texts of this proof, laid together. Conditions: as each says. -/
import Derived.Test.YtagiddbfhlokcaaGreatDoorMBG
import Derived.Test.YtagiddbfhlokcaaGreatDoorMBI
import Derived.Test.YtagiddbfhlokcaaGreatDoorMBJ
import Derived.Test.YtagiddbfhlokcaaGreatDoorMBR
import Derived.Lib.SplitLaws
/- A row's text is read as the row: the plain law. Conditions: the tables of powers; that the row is formed. -/
namespace Go.Proofs.YtagiddbfhlokcaaGreatDoor.Ser
open Go.RowKit Go.Sort Ff
set_option maxRecDepth 100000
/-- What ends a name's text. -/
def Halt (x : List UInt8) : Prop := ∃ c r, x = c :: r ∧ spec c = true ∧ c.toNat ≠ 92
theorem halt44 (r : List UInt8) : Halt (44 :: r) := ⟨44, r, rfl, by decide, by decide⟩
theorem halt61 (r : List UInt8) : Halt (61 :: r) := ⟨61, r, rfl, by decide, by decide⟩
theorem halt32 (r : List UInt8) : Halt (32 :: r) := ⟨32, r, rfl, by decide, by decide⟩
theorem scan_back : ∀ (l x acc : List UInt8), Halt x → scan acc (esc l ++ x) = some (acc ++ l, x)
  | [], x, acc, h => by
    obtain ⟨c, r, rfl, hs, h92⟩ := h
    rw [List.append_nil]
    exact scan_stop acc c r h92 hs
  | c :: l, x, acc, h => by
    have e : esc (c :: l) = esc1 c ++ esc l := by simp [esc]
    have ih := scan_back l x (acc ++ [c]) h
    rw [e, List.append_assoc]
    unfold esc1
    cases hs : spec c with
    | true =>
      simp only [if_true, List.cons_append, List.nil_append]
      rw [scan_esc _ _ _ _ (by decide) hs, ih]
      simp
    | false =>
      simp only [Bool.false_eq_true, if_false, List.cons_append, List.nil_append]
      rw [scan_plain _ _ _ (fun h92 => by have : c = 92 := UInt8.toNat_inj.1 h92; rw [this] at hs; exact absurd hs (by decide)) hs, ih]
      simp
theorem head_is (c : UInt8) (r : List UInt8) : headIs c (c :: r) = true := by simp [headIs]
def tT (p : Tg) : List UInt8 := esc p.1.data.toList ++ 61 :: esc p.2.data.toList
def TgOk (p : Tg) : Prop := nameB p.1.data.toList = true ∧ nameB p.2.data.toList = true
theorem ofL_self (t : ByteArray) : ofL t.data.toList = t := ofL_toList t
theorem tagsP_back : ∀ (ps : List Tg) (p : Tg) (m : Nat) (acc : List Tg) (R : List UInt8), ps.length < m → (∀ q ∈ p :: ps, TgOk q) → tagsP m acc (tT p ++ (ps.flatMap (fun q => 44 :: tT q) ++ 32 :: R)) = some (acc ++ p :: ps, R)
  | ps, p, 0, acc, R, hm, _ => absurd hm (Nat.not_lt_zero _)
  | [], p, m + 1, acc, R, hm, hp => by
    obtain ⟨h1, h2⟩ := hp p (by simp)
    have e1 : tT p ++ (([] : List Tg).flatMap (fun q => 44 :: tT q) ++ 32 :: R) = esc p.1.data.toList ++ 61 :: (esc p.2.data.toList ++ 32 :: R) := by simp [tT]
    rw [e1, tagsP, scan_back _ _ _ (halt61 _)]
    simp only [List.nil_append, h1, head_is, Bool.and_self, if_true, List.tail_cons]
    rw [scan_back _ _ _ (halt32 _)]
    simp only [List.nil_append, h2, if_true]
    rw [if_neg (by decide), ofL_self, ofL_self]
  | q :: ps, p, m + 1, acc, R, hm, hp => by
    obtain ⟨h1, h2⟩ := hp p (by simp)
    have e1 : tT p ++ ((q :: ps).flatMap (fun q => 44 :: tT q) ++ 32 :: R) = esc p.1.data.toList ++ 61 :: (esc p.2.data.toList ++ 44 :: (tT q ++ (ps.flatMap (fun q => 44 :: tT q) ++ 32 :: R))) := by simp [tT]
    rw [e1, tagsP, scan_back _ _ _ (halt61 _)]
    simp only [List.nil_append, h1, head_is, Bool.and_self, if_true, List.tail_cons]
    rw [scan_back _ _ _ (halt44 _)]
    simp only [List.nil_append, h2, if_true]
    rw [tagsP_back ps q m _ R (by simp at hm; omega) (fun u hu => hp u (by simp at hu ⊢; exact .inr hu)), ofL_self, ofL_self]
    simp
/-- The value's end is found. -/
theorem qa_quo : ∀ (t : List UInt8) (n : Nat) (R : List UInt8), qa n (PF.quo t ++ 34 :: R) = some (n + (PF.quo t).length + 1)
  | [], n, R => by
    rw [show PF.quo [] = [] from rfl, List.nil_append, qa_q]
    rfl
  | c :: t, n, R => by
    have e : PF.quo (c :: t) = PF.q1 c ++ PF.quo t := rfl
    rw [e, List.append_assoc]
    by_cases h1 : c = 34
    · subst h1
      show qa n (92 :: 34 :: (PF.quo t ++ 34 :: R)) = some (n + (92 :: 34 :: PF.quo t).length + 1)
      rw [qa_esc, qa_quo t]
      simp only [List.length_cons]
      congr 1
      omega
    · by_cases h2 : c = 92
      · subst h2
        show qa n (92 :: 92 :: (PF.quo t ++ 34 :: R)) = some (n + (92 :: 92 :: PF.quo t).length + 1)
        rw [qa_esc, qa_quo t]
        simp only [List.length_cons]
        congr 1
        omega
      · by_cases h3 : c = 10
        · subst h3
          show qa n (92 :: 110 :: (PF.quo t ++ 34 :: R)) = some (n + (92 :: 110 :: PF.quo t).length + 1)
          rw [qa_esc, qa_quo t]
          simp only [List.length_cons]
          congr 1
          omega
        · have e1 : PF.q1 c = [c] := by unfold PF.q1; rw [if_neg h1, if_neg h2, if_neg h3]
          rw [e1, List.singleton_append, qa_next _ _ _ h1 h2, qa_quo t]
          simp only [List.length_append, List.length_cons, List.length_nil]
          congr 1
          omega
theorem take_nsep {A : List UInt8} {c : UInt8} {r : List UInt8} (h : A.all nsep = true) (hc : nsep c = false) : (A ++ c :: r).takeWhile nsep = A := by
  induction A with
  | nil => rw [List.nil_append, List.takeWhile_cons, if_neg (by rw [hc]; decide)]
  | cons a A ih =>
    rw [List.all_cons, Bool.and_eq_true] at h
    rw [List.cons_append, List.takeWhile_cons, if_pos h.1, ih h.2]
theorem numE_nsep {l : List UInt8} (h : l.all PF.isNumE = true) : l.all nsep = true := by
  rw [List.all_eq_true] at h ⊢
  intro c hc
  have := h c hc
  unfold nsep
  by_cases h1 : c = 44
  · subst h1; exact absurd this (by decide)
  · by_cases h2 : c = 32
    · subst h2; exact absurd this (by decide)
    · simp [h1, h2]
theorem vEnd_pv {T : Nat → Nat × Nat} (hP : PF.TabPow (tabF T)) {k : Int} {x : Nat} {t : ByteArray} (h : formV k (x : Int) t = true) {c : UInt8} (r : List UInt8) (hc : nsep c = false) (hc2 : c ≠ 34) : vEnd (pv T k x t ++ c :: r) = some (pv T k x t).length := by
  have key : ∀ A : List UInt8, A.all nsep = true → headIs 34 A = false → vEnd (A ++ c :: r) = some A.length := by
    intro A hA h34
    have e : headIs 34 (A ++ c :: r) = false := by
      cases A with
      | nil => simp [headIs, hc2]
      | cons a A => exact h34
    unfold vEnd
    rw [e, if_neg (by decide), take_nsep hA hc]
  by_cases h1 : k = 1
  · subst h1
    rw [formV_1, Bool.and_eq_true] at h
    obtain ⟨a, b, d⟩ := PF.flText_dec hP (fin_of h.2)
    rw [pv_1]
    exact key _ (numE_nsep b) (head_no34 b)
  · by_cases h2 : k = 2
    · subst h2
      rw [pv_2]
      refine key _ ?_ (int_text _).2.2
      rw [List.all_append, numE_nsep (PF.itoa_numE _)]
      rfl
    · by_cases h3 : k = 3
      · subst h3
        rw [pv_3]
        split
        · exact key _ rfl rfl
        · exact key _ rfl rfl
      · unfold pv
        rw [if_neg h1, if_neg h2, if_neg h3]
        have e : headIs 34 (PF.quoted t.data.toList ++ c :: r) = true := rfl
        unfold vEnd
        rw [e, if_pos rfl]
        show qa 1 ((PF.quo t.data.toList ++ [34]) ++ c :: r) = _
        rw [List.append_assoc, List.singleton_append, qa_quo]
        unfold PF.quoted
        simp only [List.length_cons, List.length_append, List.length_nil]
        congr 1
        omega
def pvF (T : Nat → Nat × Nat) (p : Fd) : List UInt8 := pv T p.2.1 p.2.2.1.toNat p.2.2.2
def fT (T : Nat → Nat × Nat) (p : Fd) : List UInt8 := esc p.1.data.toList ++ 61 :: pvF T p
def FdGood (p : Fd) : Prop := nameB p.1.data.toList = true ∧ formV p.2.1 p.2.2.1 p.2.2.2 = true ∧ FdOk p
theorem fieldsP_back {T : Nat → Nat × Nat} {F : Nat → Nat} (hP : PF.TabPow (tabF T)) (hF : PF.TabTen F) (now tm : Int) (ht1 : -9223372036854775808 ≤ tm) (ht2 : tm ≤ 9223372036854775807) : ∀ (ps : List Fd) (p : Fd) (m : Nat) (acc : List Fd), ps.length < m → (∀ q ∈ p :: ps, FdGood q) →
    fieldsP (valP (tabF T) F) now m acc (fT T p ++ (ps.flatMap (fun q => 44 :: fT T q) ++ 32 :: Lib.itoa tm)) = (0, acc ++ p :: ps, tm)
  | ps, p, 0, acc, hm, _ => absurd hm (Nat.not_lt_zero _)
  | [], p, m + 1, acc, hm, hp => by
    obtain ⟨h1, h2, h3⟩ := hp p (by simp)
    have e : ((p.2.2.1.toNat : Nat) : Int) = p.2.2.1 := by have := h3.2; omega
    have h2' : formV p.2.1 ((p.2.2.1.toNat : Nat) : Int) p.2.2.2 = true := by rw [e]; exact h2
    have hv := valP_pv hP hF (x := p.2.2.1.toNat) (by have := h3.2; omega) h2'
    have he := vEnd_pv hP h2' (c := 32) (Lib.itoa tm) (by decide) (by decide)
    have e1 : fT T p ++ (([] : List Fd).flatMap (fun q => 44 :: fT T q) ++ 32 :: Lib.itoa tm) = esc p.1.data.toList ++ 61 :: (pvF T p ++ 32 :: Lib.itoa tm) := by simp [fT]
    rw [e1, fieldsP, scan_back _ _ _ (halt61 _)]
    simp only [List.nil_append, h1, head_is, Bool.and_self, if_true, List.tail_cons]
    unfold pvF
    rw [he]
    simp only [List.take_left, List.drop_left, hv, if_true]
    rw [if_neg (by decide), PF.intP_itoa ht1 ht2, ofL_self, valF_val, e]
  | q :: ps, p, m + 1, acc, hm, hp => by
    obtain ⟨h1, h2, h3⟩ := hp p (by simp)
    have e : ((p.2.2.1.toNat : Nat) : Int) = p.2.2.1 := by have := h3.2; omega
    have h2' : formV p.2.1 ((p.2.2.1.toNat : Nat) : Int) p.2.2.2 = true := by rw [e]; exact h2
    have hv := valP_pv hP hF (x := p.2.2.1.toNat) (by have := h3.2; omega) h2'
    have he := vEnd_pv hP h2' (c := 44) (fT T q ++ (ps.flatMap (fun q => 44 :: fT T q) ++ 32 :: Lib.itoa tm)) (by decide) (by decide)
    have e1 : fT T p ++ ((q :: ps).flatMap (fun q => 44 :: fT T q) ++ 32 :: Lib.itoa tm) = esc p.1.data.toList ++ 61 :: (pvF T p ++ 44 :: (fT T q ++ (ps.flatMap (fun q => 44 :: fT T q) ++ 32 :: Lib.itoa tm))) := by simp [fT]
    rw [e1, fieldsP, scan_back _ _ _ (halt61 _)]
    simp only [List.nil_append, h1, head_is, Bool.and_self, if_true, List.tail_cons]
    unfold pvF
    rw [he]
    simp only [List.take_left, List.drop_left, hv, if_true]
    rw [fieldsP_back hP hF now tm ht1 ht2 ps q m _ (by simp at hm; omega) (fun u hu => hp u (by simp at hu ⊢; exact .inr hu)), ofL_self, valF_val, e]
    simp
def tgs (n : Nat) (kf vf : Nat → ByteArray) : List Tg := (List.range n).map fun i => (kf i, vf i)
theorem tgs_len (n : Nat) (kf vf : Nat → ByteArray) : (tgs n kf vf).length = n := by simp [tgs]
theorem tgs_get {n : Nat} {kf vf : Nat → ByteArray} {i : Nat} (h : i < n) : kOf (tgs n kf vf) i = kf i ∧ vOf (tgs n kf vf) i = vf i := by
  obtain ⟨a, b⟩ := kOf_get (ts := tgs n kf vf) (i := i) (by rw [tgs_len]; exact h)
  rw [a, b]
  simp [tgs]
theorem formedB_tgs (name : ByteArray) (n : Nat) (kf vf : Nat → ByteArray) : formedB name (tgs n kf vf).length (kOf (tgs n kf vf)) (vOf (tgs n kf vf)) = formedB name n kf vf := by
  rw [tgs_len]
  unfold formedB
  congr 1
  rw [Bool.eq_iff_iff, List.all_eq_true, List.all_eq_true]
  have key : ∀ i, i ∈ List.range n → stepOk (kOf (tgs n kf vf)) (vOf (tgs n kf vf)) i = stepOk kf vf i := by
    intro i hi
    have hi : i < n := List.mem_range.1 hi
    unfold stepOk
    rw [(tgs_get hi).1, (tgs_get hi).2, (tgs_get (show i - 1 < n by omega)).1]
  exact ⟨fun h i hi => by rw [← key i hi]; exact h i hi, fun h i hi => by rw [key i hi]; exact h i hi⟩
theorem text_tgs (name : ByteArray) (n : Nat) (kf vf : Nat → ByteArray) : textTo name kf vf n = esc name.data.toList ++ (tgs n kf vf).flatMap (fun q => 44 :: tT q) := by
  unfold textTo tgs
  rw [List.flatMap_map]
  rfl
theorem range_flat (g : Fd → List UInt8) : ∀ L : List Fd, (List.range L.length).flatMap (fun i => g (fE L i)) = L.flatMap g
  | [] => rfl
  | p :: L => by
    rw [List.length_cons, List.range_succ_eq_map, List.flatMap_cons, List.flatMap_map, List.flatMap_cons, ← range_flat g L]
    rfl
theorem text_fields (T : Nat → Nat × Nat) (p : Fd) (ps : List Fd) : (List.range (p :: ps).length).flatMap (fText T (p :: ps)) = 32 :: (fT T p ++ ps.flatMap (fun q => 44 :: fT T q)) := by
  rw [List.length_cons, List.range_succ_eq_map, List.flatMap_cons, List.flatMap_map, ← range_flat (fun q => 44 :: fT T q) ps]
  rfl
theorem row_parts {name : ByteArray} {n : Nat} {kf vf : Nat → ByteArray} {L : List Fd} (h : rowB name n kf vf L = true) (hfs : ∀ p ∈ L, FdOk p) : nameB name.data.toList = true ∧ (∀ q ∈ tgs n kf vf, TgOk q) ∧ Rise keyT (tgs n kf vf) ∧ (∀ p ∈ L, FdGood p) ∧ Rise keyF L ∧ 0 < L.length ∧ rowB name (tgs n kf vf).length (kOf (tgs n kf vf)) (vOf (tgs n kf vf)) L = true := by
  have h2 : rowB name (tgs n kf vf).length (kOf (tgs n kf vf)) (vOf (tgs n kf vf)) L = true := by
    unfold rowB at h ⊢
    rw [formedB_tgs]
    exact h
  unfold rowB at h
  rw [Bool.and_eq_true, Bool.and_eq_true, Bool.and_eq_true, decide_eq_true_eq, decide_eq_true_eq] at h
  obtain ⟨r1, r2, r3, r4⟩ := h
  obtain ⟨p1, p2, p3⟩ := formed_parts r2
  have e := formedB_tgs name n kf vf
  rw [r2] at e
  unfold formedB at e
  rw [Bool.and_eq_true] at e
  obtain ⟨s1, s2⟩ := (steps_iff _).1 e.1
  obtain ⟨f1, f2⟩ := (fsteps_iff _).1 r1
  exact ⟨p1, s1, s2, fun p hp => ⟨(f1 p hp).1, (f1 p hp).2, hfs p hp⟩, f2, r3, h2⟩
theorem finP_back {name : ByteArray} {n : Nat} {kf vf : Nat → ByteArray} {L : List Fd} (tm : Int) (h : rowB name n kf vf L = true) (hfs : ∀ p ∈ L, FdOk p) : finP name (tgs n kf vf) (0, L, tm) = (0, some (name, tgs n kf vf, L, tm)) := by
  obtain ⟨a1, a2, a3, a4, a5, a6, a7⟩ := row_parts h hfs
  obtain ⟨b1, b2⟩ := rowOk_of (name := name) (List.Perm.refl (tgs n kf vf)) a3.weak (List.Perm.refl L) a5.weak
  rw [a7] at b1
  obtain ⟨c1, c2⟩ := b2 b1.symm
  unfold finP
  simp only
  rw [if_pos trivial, ← b1, if_pos rfl, ← c1, ← c2]
/-- A ROW THAT WAS PRINTED IS READ AS IT WAS. -/
theorem lineP_back {T : Nat → Nat × Nat} {F : Nat → Nat} (hP : PF.TabPow (tabF T)) (hF : PF.TabTen F) {name : ByteArray} {n : Nat} {kf vf : Nat → ByteArray} {L : List Fd} (now : Int) {tm : Int} (ht1 : -9223372036854775808 ≤ tm) (ht2 : tm ≤ 9223372036854775807) (hfs : ∀ p ∈ L, FdOk p) (h : rowB name n kf vf L = true) :
    lineP (valP (tabF T) F) now (rText T name n kf vf L tm) = (0, some (name, tgs n kf vf, L, tm)) := by
  obtain ⟨a1, a2, a3, a4, a5, a6, a7⟩ := row_parts h hfs
  have hfin := finP_back tm h hfs
  obtain ⟨p, ps, rfl⟩ : ∃ p ps, L = p :: ps := by
    cases L with
    | nil => simp at a6
    | cons p ps => exact ⟨p, ps, rfl⟩
  have e1 : rText T name n kf vf (p :: ps) tm = esc name.data.toList ++ ((tgs n kf vf).flatMap (fun q => 44 :: tT q) ++ 32 :: (fT T p ++ (ps.flatMap (fun q => 44 :: fT T q) ++ 32 :: Lib.itoa tm))) := by
    unfold rText rTo
    rw [text_tgs, text_fields]
    simp
  have hlen : ps.length < (rText T name n kf vf (p :: ps) tm).length := by
    have key : ∀ l : List Fd, l.length ≤ (l.flatMap (fun q => 44 :: fT T q)).length := by
      intro l
      induction l with
      | nil => simp
      | cons q l ih => rw [List.flatMap_cons, List.length_append, List.length_cons, List.length_cons]; omega
    have := key ps
    rw [e1]
    simp only [List.length_append, List.length_cons]
    omega
  have hlen2 : n < (rText T name n kf vf (p :: ps) tm).length := by
    have key : ∀ l : List Tg, l.length ≤ (l.flatMap (fun q => 44 :: tT q)).length := by
      intro l
      induction l with
      | nil => simp
      | cons q l ih => rw [List.flatMap_cons, List.length_append, List.length_cons, List.length_cons]; omega
    have := key (tgs n kf vf)
    rw [tgs_len] at this
    rw [e1]
    simp only [List.length_append, List.length_cons]
    omega
  obtain ⟨m, hm⟩ : ∃ m, (rText T name n kf vf (p :: ps) tm).length = m := ⟨_, rfl⟩
  have hfl := fieldsP_back hP hF now tm ht1 ht2 ps p m [] (by omega) a4
  unfold lineP
  rw [hm, e1]
  cases hts : tgs n kf vf with
  | nil =>
    rw [hts] at hfin
    rw [List.flatMap_nil, List.nil_append, scan_back _ _ _ (halt32 _)]
    simp only [List.nil_append, a1, if_true]
    rw [hfl, ofL_self]
    exact hfin
  | cons q qs =>
    have hlq : qs.length < m := by
      have := tgs_len n kf vf
      rw [hts, List.length_cons] at this
      omega
    have htg := tagsP_back qs q m [] (fT T p ++ (ps.flatMap (fun q => 44 :: fT T q) ++ 32 :: Lib.itoa tm)) hlq (by rw [← hts]; exact a2)
    rw [hts] at hfin
    rw [List.flatMap_cons, List.cons_append, List.cons_append, scan_back _ _ _ (halt44 _)]
    simp only [List.nil_append, a1, if_true]
    rw [if_neg (by decide), List.append_assoc, htg]
    simp only
    rw [List.nil_append, hfl, ofL_self]
    exact hfin
end Go.Proofs.YtagiddbfhlokcaaGreatDoor.Ser
/- The lines of a text: plain law. No condition. -/
namespace Go.Proofs.YtagiddbfhlokcaaGreatDoor.Ser
open Go.RowKit Go.Sort
set_option maxRecDepth 100000
def consHd (b : List UInt8) : List (List UInt8) → List (List UInt8)
  | [] => [b]
  | p :: ps => (b ++ p) :: ps
/-- A text cut at its line feeds. -/
def sp : List UInt8 → List (List UInt8)
  | [] => [[]]
  | c :: r => if c = 10 then [] :: sp r else consHd [c] (sp r)
/-- A text's lines; cur is what of the line has gone by. -/
def rln : List UInt8 → List UInt8 → List (List UInt8)
  | cur, [] => if cur.isEmpty then [] else [cur]
  | cur, c :: r => if c = 10 then cur :: rln [] r else rln (cur ++ [c]) r
theorem index_hit (l : List UInt8) : Lib.index (10 :: l) [10] = 0 := by rw [Lib.index]; simp [List.isPrefixOf]
theorem index_ne {b : UInt8} (l : List UInt8) (h : b ≠ 10) : Lib.index (b :: l) [10] = if Lib.index l [10] == -1 then -1 else Lib.index l [10] + 1 := by
  have hp : ([10] : List UInt8).isPrefixOf (b :: l) = false := by simp [List.isPrefixOf, Ne.symm h]
  rw [Lib.index, hp]; simp
theorem splitK_ne {b : UInt8} (h : b ≠ 10) : ∀ (k : Nat) (l : List UInt8), Lib.splitK [10] 0 k (b :: l) = consHd [b] (Lib.splitK [10] 0 k l)
  | 0, l => rfl
  | k + 1, l => by
    unfold Lib.splitK
    rw [index_ne l h]
    by_cases hm : Lib.index l [10] = -1
    · simp [hm, consHd]
    · have hge := Lib.index_ge l [10]
      obtain ⟨j, hj⟩ : ∃ j : Nat, Lib.index l [10] = j := ⟨(Lib.index l [10]).toNat, by omega⟩
      have h1 : ((Lib.index l [10]) == -1) = false := by rw [beq_eq_false_iff_ne]; exact hm
      have h2 : ((Lib.index l [10] + 1) == (-1 : Int)) = false := by rw [beq_eq_false_iff_ne]; omega
      rw [h1]
      simp only [Bool.false_eq_true, if_false]
      rw [h2]
      simp only [Bool.false_eq_true, if_false]
      rw [hj]
      rw [show ((j : Int) + 1).toNat = j + 1 by omega, show ((j : Int)).toNat = j by omega]
      simp [consHd]
theorem split_sp : ∀ s : List UInt8, Lib.split s [10] = sp s
  | [] => by
    unfold Lib.split
    rw [Lib.count_miss (by simp [Lib.index])]
    rfl
  | b :: l => by
    have ih := split_sp l
    unfold Lib.split at ih ⊢
    by_cases h : b = 10
    · subst h
      rw [Lib.count_cons_eq, Nat.add_comm]
      unfold Lib.splitK
      rw [index_hit, sp, if_pos rfl]
      simp
      exact ih
    · rw [Lib.count_cons_ne _ _ _ h, splitK_ne h, ih, sp, if_neg h]
theorem consHd_app (a b : List UInt8) (L : List (List UInt8)) : consHd a (consHd b L) = consHd (a ++ b) L := by cases L <;> simp [consHd]
theorem sp_ne : ∀ l, sp l ≠ []
  | [] => by simp [sp]
  | c :: r => by
    unfold sp
    split
    · simp
    · cases sp r <;> simp [consHd]
theorem suf_one (c : UInt8) : Lib.trimSuffix [c] [10] = if c = 10 then [] else [c] := by
  unfold Lib.trimSuffix Lib.hasSuffix
  by_cases h : c = 10
  · subst h; rfl
  · rw [if_neg h, if_neg]
    rw [List.isSuffixOf_iff_suffix, List.suffix_cons_iff]
    rintro (h1 | h1)
    · injection h1 with h1; exact h h1.symm
    · have := h1.length_le; simp at this
theorem suf_cons (c d : UInt8) (r : List UInt8) : Lib.trimSuffix (c :: d :: r) [10] = c :: Lib.trimSuffix (d :: r) [10] := by
  unfold Lib.trimSuffix Lib.hasSuffix
  have e : ([10] : List UInt8).isSuffixOf (c :: d :: r) = ([10] : List UInt8).isSuffixOf (d :: r) := by
    rw [Bool.eq_iff_iff, List.isSuffixOf_iff_suffix, List.isSuffixOf_iff_suffix, List.suffix_cons_iff]
    constructor
    · rintro (h | h)
      · injection h with _ h; cases h
      · exact h
    · exact .inr
  rw [e]
  split
  · simp
  · rfl
theorem rln_sp : ∀ (n : Nat) (cur : List UInt8) (c : UInt8) (r : List UInt8), r.length ≤ n → rln cur (c :: r) = consHd cur (sp (Lib.trimSuffix (c :: r) [10]))
  | n, cur, c, [], _ => by
    rw [suf_one]
    unfold rln rln
    by_cases h : c = 10
    · simp [h, sp, consHd]
    · simp [h, sp, consHd]
  | 0, cur, c, d :: r, hn => by simp at hn
  | n + 1, cur, c, d :: r, hn => by
    rw [suf_cons]
    unfold rln
    by_cases h : c = 10
    · rw [if_pos h, rln_sp n [] d r (by simp at hn; omega), sp, if_pos h]
      have := sp_ne (Lib.trimSuffix (d :: r) [10])
      cases hs : sp (Lib.trimSuffix (d :: r) [10]) with
      | nil => exact absurd hs this
      | cons p ps => simp [consHd]
    · rw [if_neg h, rln_sp n _ d r (by simp at hn; omega), sp, if_neg h, consHd_app]
/-- The lines, as the program cuts them. -/
theorem lines_eq {l : List UInt8} (h : l ≠ []) : rln [] l = sp (Lib.trimSuffix l [10]) := by
  cases l with
  | nil => exact absurd rfl h
  | cons c r =>
    rw [rln_sp _ _ _ _ (Nat.le_refl _)]
    have := sp_ne (Lib.trimSuffix (c :: r) [10])
    cases hs : sp (Lib.trimSuffix (c :: r) [10]) with
    | nil => exact absurd hs this
    | cons p ps => simp [consHd]
/-- No line is longer than the text, and there are no more lines than bytes. -/
theorem rln_len : ∀ (r cur : List UInt8), (∀ p ∈ rln cur r, p.length ≤ cur.length + r.length) ∧ (rln cur r).length ≤ r.length + 1
  | [], cur => by
    unfold rln
    split <;> simp
  | c :: r, cur => by
    unfold rln
    split
    · obtain ⟨h1, h2⟩ := rln_len r []
      refine ⟨fun p hp => ?_, by simp; omega⟩
      rcases List.mem_cons.1 hp with rfl | hp
      · simp
      · have := h1 p hp; simp at this ⊢; omega
    · obtain ⟨h1, h2⟩ := rln_len r (cur ++ [c])
      refine ⟨fun p hp => ?_, by simp; omega⟩
      have := h1 p hp; simp at this ⊢; omega
end Go.Proofs.YtagiddbfhlokcaaGreatDoor.Ser
/- The lines of a text, by the reference: the walk. Condition: the text's length. -/
namespace Go.Proofs.YtagiddbfhlokcaaGreatDoor.Ser
open Go.RowKit Go.Sort
set_option maxRecDepth 100000
def strs (L : List (List UInt8)) : List Value := L.map fun p => .string (bs p)
end Go.Proofs.YtagiddbfhlokcaaGreatDoor.Ser
/- Rows of rows in memory; a batch: plain law. No condition. -/
namespace Go.Proofs.YtagiddbfhlokcaaGreatDoor.Ser
open Go.RowKit Go.Sort
set_option maxRecDepth 100000
/-- A row's value: name, tags' slice, fields' slice, time. -/
structure Ro where
  nm : ByteArray
  a : Option Addr
  n : Nat
  c : Nat
  fa : Option Addr
  m : Nat
  fc : Nat
  t : Int
def encR (r : Ro) : List Value := [.string r.nm, .slice r.a r.n r.c, .slice r.fa r.m r.fc, .int .i64 r.t]
def encN (p : Int × Ro) : List Value := .int .i64 p.1 :: encR p.2
def encX (p : Int × Int) : List Value := [.int .i64 p.1, .int .i64 p.2]
theorem encN_len (p : Int × Ro) : (encN p).length = 5 := rfl
def RoIs (w : World) (r : Ro) (R : LR) : Prop := RowIs R w r.nm r.a r.n r.fa r.m r.t
/-- A row's own blocks are none of 'row'. -/
def Away (row : Option Nat) (r : Ro) : Prop := (0 < r.n → r.a.map (·.block) ≠ row) ∧ (0 < r.m → r.fa.map (·.block) ≠ row)
def Past (B : Nat) (r : Ro) : Prop := (0 < r.n → ∃ b, r.a.map (·.block) = some b ∧ B ≤ b) ∧ (0 < r.m → ∃ b, r.fa.map (·.block) = some b ∧ B ≤ b)
theorem RoIs.later {w w' : World} {r : Ro} {R : LR} (h : RoIs w r R) (hb : Below w.heap.size w w') : RoIs w' r R := RowIs.later h hb
theorem RoIs.kept {w w' : World} {r : Ro} {R : LR} {row : Option Nat} (h : RoIs w r R) (hg : w.grownBy w' row) (ha : Away row r) : RoIs w' r R :=
  ⟨h.name, h.tn, h.fn, h.tm, fun i hi => by
    obtain ⟨b, off, h1, h2, h3, h4⟩ := h.tags i hi
    have hne : some b ≠ row := by have := ha.1 (by omega); rw [h1] at this; exact this
    have hbl := hg.block b h2 hne
    exact ⟨b, off, h1, Nat.lt_of_lt_of_le h2 hg.size, by rw [← h3]; exact World.cell?_of_block (w := w) hbl, by rw [← h4]; exact World.cell?_of_block (w := w) hbl⟩, fun i hi => by
    obtain ⟨b, off, h1, h2, h3, h4, h5, h6⟩ := h.fields i hi
    have hfn := h.fn
    have hne : some b ≠ row := by have := ha.2 (by omega); rw [h1] at this; exact this
    have hbl := hg.block b h2 hne
    exact ⟨b, off, h1, Nat.lt_of_lt_of_le h2 hg.size, by rw [← h3]; exact World.cell?_of_block (w := w) hbl, by rw [← h4]; exact World.cell?_of_block (w := w) hbl, by rw [← h5]; exact World.cell?_of_block (w := w) hbl, by rw [← h6]; exact World.cell?_of_block (w := w) hbl⟩⟩
/-- A row that lies in a world lies away from what is new. -/
theorem RoIs.away {w : World} {r : Ro} {R : LR} (h : RoIs w r R) {g : Nat} (hg : w.heap.size ≤ g) : Away (some g) r := by
  have htn := h.tn
  have hfn := h.fn
  refine ⟨fun hn e => ?_, fun hn e => ?_⟩
  · obtain ⟨b, off, h1, h2, _⟩ := h.tags 0 (by omega)
    rw [h1] at e
    injection e with e
    simp only at e
    omega
  · obtain ⟨b, off, h1, h2, _⟩ := h.fields 0 (by omega)
    rw [h1] at e
    injection e with e
    simp only at e
    omega
theorem Past.away {B : Nat} {r : Ro} (h : Past B r) {row : Option Nat} (hr : ∀ g, row = some g → g < B) : Away row r := by
  refine ⟨fun hn e => ?_, fun hn e => ?_⟩
  · obtain ⟨b, h1, h2⟩ := h.1 hn
    have := hr b (by rw [← e, h1])
    omega
  · obtain ⟨b, h1, h2⟩ := h.2 hn
    have := hr b (by rw [← e, h1])
    omega
/-- What a parser answers is a row of its own. -/
theorem rowPost_ro {R : LR} {w w' : World} {e : Ending} (h : RowPost R w e w') : Below w.heap.size w w' ∧ ∃ r : Ro, e = .returned (.tuple #[.agg #[.string r.nm, .slice r.a r.n r.c, .slice r.fa r.m r.fc, .int .i64 r.t], .int .i64 R.1]) ∧ RoIs w' r R ∧ Past w.heap.size r := by
  obtain ⟨hb, hm⟩ := h
  refine ⟨hb, ?_⟩
  cases ho : R.2 with
  | none =>
    rw [ho] at hm
    simp only at hm
    have hc : cont R = (⟨#[]⟩, [], [], 0) := by unfold cont; rw [ho]; rfl
    refine ⟨⟨⟨#[]⟩, none, 0, 0, none, 0, 0, 0⟩, hm, ⟨by rw [hc], by rw [hc]; rfl, by rw [hc]; rfl, by rw [hc], fun i hi => absurd hi (Nat.not_lt_zero i), ?_⟩, ⟨fun h => absurd h (Nat.lt_irrefl 0), fun h => absurd h (Nat.lt_irrefl 0)⟩⟩
    rw [hc]
    exact fun i hi => absurd hi (Nat.not_lt_zero i)
  | some r =>
    rw [ho] at hm
    obtain ⟨v, vf, he, hrt, hrf, _⟩ := hm
    have hc : cont R = r := by unfold cont; rw [ho]; rfl
    obtain ⟨a1, c1, rfl⟩ := hrt.slice
    obtain ⟨a2, c2, rfl⟩ := hrf.slice
    refine ⟨⟨r.1, a1, _, c1, a2, _, c2, r.2.2.2⟩, he, ⟨by rw [hc], by rw [hc], by rw [hc], by rw [hc], by rw [hc]; exact hrt.at, by rw [hc]; exact hrf.at⟩, ⟨fun hn => ?_, fun hn => ?_⟩⟩
    · obtain ⟨g, c', hv, hg, _⟩ := hrt.form hn
      injection hv with hv
      exact ⟨g, by rw [hv]; rfl, hg⟩
    · obtain ⟨g, c', hv, hg, _⟩ := hrf.form hn
      injection hv with hv
      exact ⟨g, by rw [hv]; rfl, hg⟩
/-- A line that says nothing. -/
def noise (p : List UInt8) : Bool := p.isEmpty || headIs 35 p
abbrev BS := List (Int × LR) × List (Int × Int)
def bstep (V : List UInt8 → Value × Int) (now : Int) (s : BS) (k : Nat) (p : List UInt8) : BS :=
  if noise p then s else if (lineP V now p).1 = 0 then (s.1 ++ [((k : Int) + 1, lineP V now p)], s.2) else (s.1, s.2 ++ [((k : Int) + 1, (lineP V now p).1)])
/-- What the first k lines give. -/
def bst (V : List UInt8 → Value × Int) (now : Int) (Ls : List (List UInt8)) : Nat → BS
  | 0 => ([], [])
  | k + 1 => bstep V now (bst V now Ls k) k (Ls.getD k [])
def batP (V : List UInt8 → Value × Int) (now : Int) (Ls : List (List UInt8)) : BS := if 1000 < Ls.length then ([], [(0, 4)]) else bst V now Ls Ls.length
theorem bst_len (V : List UInt8 → Value × Int) (now : Int) (Ls : List (List UInt8)) : ∀ k, (bst V now Ls k).1.length ≤ k ∧ (bst V now Ls k).2.length ≤ k
  | 0 => ⟨Nat.le_refl _, Nat.le_refl _⟩
  | k + 1 => by
    obtain ⟨h1, h2⟩ := bst_len V now Ls k
    unfold bst bstep
    split
    · exact ⟨by omega, by omega⟩
    · split
      · simp; omega
      · simp; omega
/-- Rows in a list, as they were read. -/
inductive Rows2 (w : World) : List (Int × Ro) → List (Int × LR) → Prop
  | nil : Rows2 w [] []
  | cons {x : Int × Ro} {y : Int × LR} {es : List (Int × Ro)} {rs : List (Int × LR)} (h : x.1 = y.1 ∧ RoIs w x.2 y.2) (hr : Rows2 w es rs) : Rows2 w (x :: es) (y :: rs)
theorem Rows2.later {w w' : World} (hb : Below w.heap.size w w') {es : List (Int × Ro)} {rs : List (Int × LR)} (h : Rows2 w es rs) : Rows2 w' es rs := by
  induction h with
  | nil => exact .nil
  | cons h _ ih => exact .cons ⟨h.1, h.2.later hb⟩ ih
theorem Rows2.kept {w w' : World} {row : Option Nat} (hg : w.grownBy w' row) {es : List (Int × Ro)} {rs : List (Int × LR)} (h : Rows2 w es rs) : (∀ x ∈ es, Away row x.2) → Rows2 w' es rs := by
  induction h with
  | nil => exact fun _ => .nil
  | cons h _ ih => exact fun ha => .cons ⟨h.1, h.2.kept hg (ha _ (List.mem_cons_self ..))⟩ (ih fun x hx => ha x (List.mem_cons_of_mem _ hx))
theorem Rows2.away {w : World} {g : Nat} (hg : w.heap.size ≤ g) {es : List (Int × Ro)} {rs : List (Int × LR)} (h : Rows2 w es rs) : ∀ x ∈ es, Away (some g) x.2 := by
  induction h with
  | nil => exact fun x hx => nomatch hx
  | cons h _ ih =>
    intro x hx
    rcases List.mem_cons.1 hx with rfl | hx
    · exact h.2.away hg
    · exact ih x hx
theorem Rows2.snoc {w : World} {es : List (Int × Ro)} {rs : List (Int × LR)} {x : Int × Ro} {y : Int × LR} (h : Rows2 w es rs) (hx : x.1 = y.1 ∧ RoIs w x.2 y.2) : Rows2 w (es ++ [x]) (rs ++ [y]) := by
  induction h with
  | nil => exact .cons hx .nil
  | cons h _ ih => exact .cons h ih
theorem Rows2.length {w : World} {es : List (Int × Ro)} {rs : List (Int × LR)} (h : Rows2 w es rs) : es.length = rs.length := by
  induction h with
  | nil => rfl
  | cons _ _ ih => simp [ih]
theorem Rows2.get {w : World} {es : List (Int × Ro)} {rs : List (Int × LR)} (h : Rows2 w es rs) : ∀ (i : Nat) (h1 : i < es.length) (h2 : i < rs.length), es[i].1 = rs[i].1 ∧ RoIs w es[i].2 rs[i].2 := by
  induction h with
  | nil => exact fun i h1 => absurd h1 (Nat.not_lt_zero i)
  | cons h _ ih =>
    intro i h1 h2
    cases i with
    | zero => exact h
    | succ i => exact ih i (by simpa using h1) (by simpa using h2)
end Go.Proofs.YtagiddbfhlokcaaGreatDoor.Ser
