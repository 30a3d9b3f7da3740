/- Several texts of this proof, laid together. Conditions: as each says. -/
import Derived.Test.YtigicmnngppipaaGreatDoorFAT
/- The parser takes words. Condition: the table of blanks. -/
namespace Go.Proofs.YtigicmnngppipaaGreatDoor.Tp
open Go.RowKit Lx
set_option maxRecDepth 100000
def asciiB (l : List UInt8) : Bool := l.all fun b => decide (b.toNat < 128)
/-- A text's words. -/
def Words (s : ByteArray) (L : List ByteArray) : Prop := L.length ≤ 1000 ∧ s.size ≤ 1000 ∧ asciiB s.data.toList = true ∧ Lib.fields s.data.toList = L.map (·.data.toList)
/-- What the parser wants of the library. -/
structure Env (W : World) : Prop where
  flds : ∀ s : ByteArray, s.size ≤ 1000 → asciiB s.data.toList = true → ∀ w, Below W.heap.size W w → Calls Tryz.prog 70 #[.string s] w fun e w' =>
      e = .returned (.slice (some ⟨w.heap.size, 0, none⟩) (Lib.fields s.data.toList).length (Lib.fields s.data.toList).length) ∧ w' = w.alloc (.cells ((Lib.fields s.data.toList).map fun l => Value.string ⟨l.toArray⟩).toArray 9)
def Out {α : Type} (P n o : Nat) (w : World) (R : Res α) (val : α → Value) (e : Ending) (w' : World) : Prop :=
  Kp (· = P) w w' ∧ match R with
  | .ok (x, ts) => e = .returned (val x) ∧ PAt w' P ts n o
  | .error q => e = stuckE n q
def tk : Except (List Tok) (List Tok) → Res Bool
  | .ok q => .ok (true, q)
  | .error q => .error q
theorem words_row (L : List ByteArray) : (L.map (·.data.toList)).map (fun l => Value.string ⟨l.toArray⟩) = L.map Value.string := by
  rw [List.map_map]
  refine List.map_congr_left fun u _ => ?_
  simp
theorem tokIs_nil (u : ByteArray) : tokIs u (hdT []) = false := by simp [tokIs, hdT, tok0]
theorem beq_str (a b : ByteArray) : (a.toList == b.toList) = decide (a = b) := by
  rw [Lib.toList_data, Lib.toList_data]
  by_cases h : a = b
  · subst h; simp
  · have : a.data.toList ≠ b.data.toList := by
      intro e
      refine h ?_
      cases a; cases b
      simp at e
      subst e
      rfl
    rw [decide_eq_false h, beq_eq_false_iff_ne]
    exact this
theorem tok_cons {q : List Tok} {u : ByteArray} {t : Tok} (h : hdT q = t) (hi : tokIs u t = true) : ∃ t0 r0, q = t0 :: r0 ∧ t0 = t := by
  cases q with
  | nil => rw [← h, tokIs_nil] at hi; cases hi
  | cons t0 r0 => exact ⟨t0, r0, rfl, h⟩
theorem drop_at {L : List ByteArray} {k : Nat} {u : ByteArray} (h : L[k]? = some u) : L.drop k = u :: L.drop (k + 1) := by
  obtain ⟨hk, e⟩ := List.getElem?_eq_some_iff.1 h
  rw [List.drop_eq_getElem_cons hk, e]
theorem takeAll_cons (u : ByteArray) (us : List ByteArray) (t : Tok) (r : List Tok) : takeAll (u :: us) (t :: r) = if tokIs u t then takeAll us r else .error (t :: r) := rfl
theorem hasP_cons (u : ByteArray) (us : List ByteArray) (t : Tok) (r : List Tok) : hasP u us (t :: r) = if tokIs u t then tk (takeAll us r) else .ok (false, t :: r) := by
  cases h : takeAll us r <;> simp [hasP, tk, h]
theorem has_step {u0 : ByteArray} {us L : List ByteArray} {k : Nat} {u : ByteArray} {t t0 : Tok} {q r0 ts : List Tok} (hL : u0 :: us = L) (hu : L[k]? = some u) (hi : tokIs u t = true) (hq : q = t0 :: r0 ∧ t0 = t) (h0 : k = 0 → q = ts) (h1 : 0 < k → hasP u0 us ts = tk (takeAll (L.drop k) q)) : hasP u0 us ts = tk (takeAll (L.drop (k + 1)) r0) := by
  obtain ⟨rfl, rfl⟩ := hq
  by_cases hk : k = 0
  · subst hk
    rw [← h0 rfl, ← hL]
    rw [← hL] at hu
    injection hu with hu
    subst hu
    simp only [List.drop_succ_cons, List.drop_zero]
    rw [hasP_cons, hi, if_pos rfl]
  · rw [h1 (by omega), drop_at hu, takeAll_cons, hi, if_pos rfl]
theorem has_no {u0 : ByteArray} {us L : List ByteArray} {k : Nat} {u : ByteArray} {t : Tok} {q ts : List Tok} (hL : u0 :: us = L) (hu : L[k]? = some u) (hi : tokIs u t = false) (ht : hdT q = t) (hk : k = 0) (h0 : k = 0 → q = ts) : hasP u0 us ts = .ok (false, ts) := by
  subst hk
  rw [← hL] at hu
  injection hu with hu
  subst hu
  rw [← h0 rfl]
  cases q with
  | nil => rfl
  | cons t0 r0 =>
    have : t0 = t := ht
    subst this
    rw [hasP_cons, hi]
    rfl
theorem has_bad {u0 : ByteArray} {us L : List ByteArray} {k : Nat} {u : ByteArray} {t : Tok} {q ts : List Tok} (hu : L[k]? = some u) (hi : tokIs u t = false) (ht : hdT q = t) (h1 : hasP u0 us ts = tk (takeAll (L.drop k) q)) : hasP u0 us ts = .error q := by
  rw [h1, drop_at hu]
  cases q with
  | nil => rfl
  | cons t0 r0 =>
    have : t0 = t := ht
    subst this
    rw [takeAll_cons, hi]
    rfl
set_option maxHeartbeats 4000000 in
theorem has_42 (P n o : Nat) (s u0 : ByteArray) (us : List ByteArray) (hs : Words s (u0 :: us)) (ts : List Tok) (W w : World) (hE : Env W) (hW : Below W.heap.size W w) (hP : PAt w P ts n o) :
    Calls Tryz.prog 42 #[.pointer (some ⟨P, 0, none⟩), .string s] w (Out P n o w (hasP u0 us ts) Value.bool) := by
  obtain ⟨hn, h1, h2, h3⟩ := hs
  have M70 := hE.flds s h1 h2 w hW
  rw [h3, words_row] at M70
  obtain ⟨L, hL⟩ : ∃ L, u0 :: us = L := ⟨_, rfl⟩
  rw [hL, List.length_map] at M70
  rw [hL] at hn
  have HN := Lib.hid hn
  have HL := Lib.hid hL
  have M := Lib.hid M70
  have HP := Lib.hid hP
  have hPl := hP.lt
  obtain ⟨PP, hPP⟩ : ∃ PP, Out P n o w (hasP u0 us ts) Value.bool = PP := ⟨_, rfl⟩
  rw [hPP]
  have HPP := Lib.hid hPP
  clear h1 h2 h3 hE hW M70 hL hP hPP hn
  go_enter Tryz.func42, Tryz.ntmps42
  go_wp2_with fail
  refine M.out.mono ?_
  rintro e w1 ⟨rfl, hw1⟩
  have hb1 : Below w.heap.size w w1 := by rw [hw1]; exact (Below.refl _ _).alloc (Nat.le_refl _) _
  have hR : w1.heap[w.heap.size]? = some (.cells (L.map Value.string).toArray 9 (0, 0)) := by rw [hw1]; exact newest _ _
  have HB1 := Lib.hid hb1
  have HR := Lib.hid hR
  have HP1 := Lib.hid (HP.out.later hb1)
  have hRl : w.heap.size < w1.heap.size := by rw [hw1]; simp
  have HRL := Lib.hid hRl
  clear hb1 hR hw1 hRl
  go_wp2_with fail
  go_loopw [11] (fun i wx => ∃ (k : Nat) (tk' : List Tok), k ≤ L.length ∧ i = .int .i64 (k : Int) ∧ Kp (· = P) w1 wx ∧ PAt wx P tk' n o ∧ (k = 0 → tk' = ts) ∧ (0 < k → hasP u0 us ts = tk (takeAll (L.drop k) tk'))) (fun i _ => L.length - (intOf i).toNat)
  case atStart => exact ⟨0, ts, Nat.zero_le _, rfl, Kp.refl _ _, HP1.out, fun _ => rfl, fun h => absurd h (Nat.lt_irrefl 0)⟩
  case round =>
    obtain ⟨k, q, hk, rfl, hkp, hpq, h0, h1⟩ := hrel
    have HKP := Lib.hid hkp
    have HPQ := Lib.hid hpq
    have H0 := Lib.hid h0
    have H1 := Lib.hid h1
    clear hkp hpq h0 h1
    by_cases hkl : k = L.length
    · have hkz : ¬ (k : Int) < (L.length : Int) := by omega
      have HKL := Lib.hid hkl
      clear hkl hk
      go_wp2_with fail
      rw [← HPP.out]
      refine ⟨(Kp.of HB1.out).then HKP.out, ?_⟩
      have h2 := H1.out (by rw [HKL.out, ← HL.out]; simp)
      rw [HKL.out, List.drop_length] at h2
      rw [h2]
      exact ⟨rfl, HPQ.out⟩
    · have hkz : (k : Int) < (L.length : Int) := by omega
      have HKL : Hid (k < L.length) := Lib.hid (by omega)
      obtain ⟨u, hu⟩ : ∃ u, L[k]? = some u := ⟨_, List.getElem?_eq_getElem HKL.out⟩
      have hcu : wr.cell? ⟨w.heap.size, k, none⟩ = some (.string u) := by
        rw [HKP.out.cell (p := ⟨w.heap.size, k, none⟩) HRL.out (by intro e; have : w.heap.size = P := e; omega), cell_of_row _ _ k _ _ _ HR.out, List.getElem?_toArray, List.getElem?_map, hu]
        rfl
      have HU := Lib.hid hu
      have M71 := Lib.hid (peek_71 P n o q wr HPQ.out)
      clear hu hkl hk
      obtain ⟨⟨kd, tx, at_⟩, ht⟩ : ∃ t, hdT q = t := ⟨_, rfl⟩
      rw [ht] at M71
      have HT := Lib.hid ht
      unfold tokV at M71
      clear ht
      go_wp2_with fail
      refine M71.out.mono ?_
      rintro e w3 ⟨rfl, hb3⟩
      have HB3 := Lib.hid hb3
      clear hb3
      have HPQ3 := Lib.hid (HPQ.out.later HB3.out)
      by_cases htx : tx = u
      · have htb : (tx.toList == u.toList) = true := by rw [beq_str]; exact decide_eq_true htx
        have HTX := Lib.hid htx
        clear htx
        by_cases hkd1 : kd = 1
        · have hkb : (kd != 1) = false := by rw [hkd1]; rfl
          have HIS : Hid (tokIs u (kd, tx, at_) = true) := Lib.hid (by unfold tokIs; simp [HTX.out, hkd1])
          clear hkd1
          obtain ⟨t0, r0, hq⟩ := tok_cons HT.out HIS.out
          have HPQ0 := Lib.hid hq
          have HPQ3 := Lib.hid (show PAt w3 P (t0 :: r0) n o from hq.1 ▸ HPQ3.out)
          clear hq
          go_wp2_with fail
          refine (pop_72 P n o t0 r0 _ (HPQ3.out.later ((Below.refl _ _).alloc (Nat.le_refl _) _))).mono ?_
          rintro e w5 ⟨rfl, hk5, hp5⟩
          have HK5 := Lib.hid hk5
          have HP5 := Lib.hid hp5
          clear hk5 hp5
          go_wp2_with fail
          have w1 : wrap64 ((k : Int) + 1) = ((k + 1 : Nat) : Int) := by have := HN.out; have := HKL.out; unfold wrap64; omega
          rw [w1]
          refine ⟨⟨k + 1, r0, HKL.out, rfl, ?_, HP5.out, fun h => absurd h (Nat.succ_ne_zero k), fun _ => ?_⟩, by have := HKL.out; simp [intOf]; omega⟩
          · exact (HKP.out.then (Kp.of HB3.out)).then ((Kp.refl _ _).alloc _ |>.then HK5.out)
          · exact has_step HL.out HU.out HIS.out HPQ0.out H0.out H1.out
        · have hkb : (kd != 1) = true := by simp [hkd1]
          by_cases hkd5 : kd = 5
          · have hkb5 : (kd != 5) = false := by rw [hkd5]; rfl
            have HIS : Hid (tokIs u (kd, tx, at_) = true) := Lib.hid (by unfold tokIs; simp [HTX.out, hkd5])
            clear hkd1 hkd5
            obtain ⟨t0, r0, hq⟩ := tok_cons HT.out HIS.out
            have HPQ0 := Lib.hid hq
            have HPQ3 := Lib.hid (show PAt w3 P (t0 :: r0) n o from hq.1 ▸ HPQ3.out)
            clear hq
            go_wp2_with fail
            refine (pop_72 P n o t0 r0 _ (HPQ3.out.later ((Below.refl _ _).alloc (Nat.le_refl _) _))).mono ?_
            rintro e w5 ⟨rfl, hk5, hp5⟩
            have HK5 := Lib.hid hk5
            have HP5 := Lib.hid hp5
            clear hk5 hp5
            go_wp2_with fail
            have w1 : wrap64 ((k : Int) + 1) = ((k + 1 : Nat) : Int) := by have := HN.out; have := HKL.out; unfold wrap64; omega
            rw [w1]
            refine ⟨⟨k + 1, r0, HKL.out, rfl, ?_, HP5.out, fun h => absurd h (Nat.succ_ne_zero k), fun _ => ?_⟩, by have := HKL.out; simp [intOf]; omega⟩
            · exact (HKP.out.then (Kp.of HB3.out)).then ((Kp.refl _ _).alloc _ |>.then HK5.out)
            · exact has_step HL.out HU.out HIS.out HPQ0.out H0.out H1.out
          · have hkb5 : (kd != 5) = true := by simp [hkd5]
            have HIS : Hid (tokIs u (kd, tx, at_) = false) := Lib.hid (by unfold tokIs; simp [hkd1, hkd5])
            clear hkd1 hkd5
            by_cases hk0 : k = 0
            · have hk0z : ¬ (0 : Int) < (k : Int) := by omega
              have HK0 := Lib.hid hk0
              clear hk0
              go_wp2_with fail
              rw [← HPP.out]
              refine ⟨(Kp.of HB1.out).then ((HKP.out.then (Kp.of HB3.out)).alloc _), ?_⟩
              rw [has_no HL.out HU.out HIS.out HT.out HK0.out H0.out]
              exact ⟨rfl, by rw [← H0.out HK0.out]; exact HPQ3.out.later ((Below.refl _ _).alloc (Nat.le_refl _) _)⟩
            · have hk0z : (0 : Int) < (k : Int) := by omega
              have HK0 : Hid (0 < k) := Lib.hid (by omega)
              clear hk0
              go_wp2_with fail
              refine (wrong_24 P n o q _ (HPQ3.out.later ((Below.refl _ _).alloc (Nat.le_refl _) _))).mono ?_
              rintro e w5 ⟨rfl, rfl⟩
              unfold stuckE
              simp (config := { zetaDelta := true }) only [Exit.inBlock, Exit.then]
              refine ⟨rfl, ?_⟩
              rw [← HPP.out]
              refine ⟨(Kp.of HB1.out).then ((HKP.out.then (Kp.of HB3.out)).alloc _), ?_⟩
              rw [has_bad HU.out HIS.out HT.out (H1.out HK0.out)]
              rfl
      · have htb : (tx.toList == u.toList) = false := by rw [beq_str]; exact decide_eq_false htx
        have HIS : Hid (tokIs u (kd, tx, at_) = false) := Lib.hid (by unfold tokIs; simp [htx])
        clear htx
        by_cases hk0 : k = 0
        · have hk0z : ¬ (0 : Int) < (k : Int) := by omega
          have HK0 := Lib.hid hk0
          clear hk0
          go_wp2_with fail
          rw [← HPP.out]
          refine ⟨(Kp.of HB1.out).then ((HKP.out.then (Kp.of HB3.out)).alloc _), ?_⟩
          rw [has_no HL.out HU.out HIS.out HT.out HK0.out H0.out]
          exact ⟨rfl, by rw [← H0.out HK0.out]; exact HPQ3.out.later ((Below.refl _ _).alloc (Nat.le_refl _) _)⟩
        · have hk0z : (0 : Int) < (k : Int) := by omega
          have HK0 : Hid (0 < k) := Lib.hid (by omega)
          clear hk0
          go_wp2_with fail
          refine (wrong_24 P n o q _ (HPQ3.out.later ((Below.refl _ _).alloc (Nat.le_refl _) _))).mono ?_
          rintro e w5 ⟨rfl, rfl⟩
          unfold stuckE
          simp (config := { zetaDelta := true }) only [Exit.inBlock, Exit.then]
          refine ⟨rfl, ?_⟩
          rw [← HPP.out]
          refine ⟨(Kp.of HB1.out).then ((HKP.out.then (Kp.of HB3.out)).alloc _), ?_⟩
          rw [has_bad HU.out HIS.out HT.out (H1.out HK0.out)]
          rfl
end Go.Proofs.YtigicmnngppipaaGreatDoor.Tp
/- Words that must be next; a row of texts searched; what is a keyword. Condition: the table of blanks. -/
namespace Go.Proofs.YtigicmnngppipaaGreatDoor.Tp
open Go.RowKit Lx
set_option maxRecDepth 100000
def mustR (L : List ByteArray) (ts : List Tok) : Res Unit := match takeAll L ts with
  | .ok q => .ok ((), q)
  | .error q => .error q
theorem has_must (u : ByteArray) (us : List ByteArray) (ts : List Tok) : (∃ q, hasP u us ts = .ok (true, q) ∧ mustR (u :: us) ts = .ok ((), q)) ∨ (hasP u us ts = .ok (false, ts) ∧ mustR (u :: us) ts = .error ts) ∨ (∃ q, hasP u us ts = .error q ∧ mustR (u :: us) ts = .error q) := by
  cases ts with
  | nil => exact .inr (.inl ⟨rfl, rfl⟩)
  | cons t r =>
    unfold mustR
    rw [hasP_cons, takeAll_cons]
    by_cases h : tokIs u t = true
    · rw [if_pos h, if_pos h]
      cases hq : takeAll us r with
      | ok q => exact .inl ⟨q, rfl, rfl⟩
      | error q => exact .inr (.inr ⟨q, rfl, rfl⟩)
    · rw [if_neg h, if_neg h]
      exact .inr (.inl ⟨rfl, rfl⟩)
theorem must_45 (P n o : Nat) (s u0 : ByteArray) (us : List ByteArray) (hs : Words s (u0 :: us)) (ts : List Tok) (W w : World) (hE : Env W) (hW : Below W.heap.size W w) (hP : PAt w P ts n o) :
    Calls Tryz.prog 45 #[.pointer (some ⟨P, 0, none⟩), .string s] w (Out P n o w (mustR (u0 :: us) ts) fun _ => .tuple #[]) := by
  have M := Lib.hid (has_42 P n o s u0 us hs ts W w hE hW hP)
  have hm := has_must u0 us ts
  have HP := Lib.hid hP
  have hPl := hP.lt
  obtain ⟨PP, hPP⟩ : ∃ PP, Out P n o w (mustR (u0 :: us) ts) (fun _ => Value.tuple #[]) = PP := ⟨_, rfl⟩
  rw [hPP]
  have HPP := Lib.hid hPP
  clear hE hW hP hPP hs
  rcases hm with ⟨q, e1, e2⟩ | ⟨e1, e2⟩ | ⟨q, e1, e2⟩
  · have H2 := Lib.hid e2
    rw [e1] at M
    clear e1 e2
    go_enter Tryz.func45, Tryz.ntmps45
    go_wp2_with fail
    refine M.out.mono ?_
    rintro e w' ⟨hk, rfl, hp⟩
    have HK := Lib.hid hk
    have HPP2 := Lib.hid hp
    clear hk hp
    go_wp2_with fail
    go_end0
    rw [← HPP.out, H2.out]
    exact ⟨HK.out, rfl, HPP2.out⟩
  · have H2 := Lib.hid e2
    rw [e1] at M
    clear e1 e2
    go_enter Tryz.func45, Tryz.ntmps45
    go_wp2_with fail
    refine M.out.mono ?_
    rintro e w' ⟨hk, rfl, hp⟩
    have HK := Lib.hid hk
    have HPP2 := Lib.hid hp
    clear hk hp
    go_wp2_with fail
    refine (wrong_24 P n o ts _ HPP2.out).mono ?_
    rintro e w5 ⟨rfl, rfl⟩
    unfold stuckE
    simp (config := { zetaDelta := true }) only
    refine ⟨rfl, ?_⟩
    rw [← HPP.out, H2.out]
    exact ⟨HK.out, rfl⟩
  · have H2 := Lib.hid e2
    rw [e1] at M
    clear e1 e2
    go_enter Tryz.func45, Tryz.ntmps45
    go_wp2_with fail
    refine M.out.mono ?_
    rintro e w' ⟨hk, rfl⟩
    unfold stuckE
    simp (config := { zetaDelta := true }) only
    refine ⟨rfl, ?_⟩
    rw [← HPP.out, H2.out]
    exact ⟨hk, rfl⟩
/-- A slice of texts. -/
def StrsAt (w : World) (a : Option Addr) (L : List ByteArray) : Prop := ∀ i (h : i < L.length), ∃ b off, a = some ⟨b, off, none⟩ ∧ b < w.heap.size ∧ w.cell? ⟨b, off + i, none⟩ = some (.string L[i])
theorem strs_later {w w' : World} {a : Option Addr} {L : List ByteArray} (h : StrsAt w a L) (hb : Below w.heap.size w w') : StrsAt w' a L := fun i hi => by
  obtain ⟨b, off, e, h1, h2⟩ := h i hi
  exact ⟨b, off, e, Nat.lt_of_lt_of_le h1 hb.size, (hb.cell (p := ⟨b, _, none⟩) h1).trans h2⟩
def idxL (L : List ByteArray) (s : ByteArray) (k : Nat) : Int := match L with
  | [] => -1
  | x :: r => if x = s then (k : Int) else idxL r s (k + 1)
theorem idxL_in (s : ByteArray) : ∀ (L : List ByteArray) (k : Nat), decide (0 ≤ idxL L s k) = inL L s
  | [], k => rfl
  | x :: r, k => by
    have ih := idxL_in s r (k + 1)
    unfold idxL inL
    rw [List.any_cons]
    by_cases h : x = s
    · rw [if_pos h, decide_eq_true h]
      simp
    · rw [if_neg h, decide_eq_false h, Bool.false_or, ih]
      rfl
theorem index_134 (a : Option Addr) (cp : Nat) (L : List ByteArray) (s : ByteArray) (w : World) (hl : L.length < 2 ^ 62) (hL : StrsAt w a L) : Calls Tryz.prog 134 #[.slice a L.length cp, .string s] w fun e w' => e = .returned (.int .i64 (idxL L s 0)) ∧ w = w' := by
  have HL := Lib.hid hL
  clear hL
  go_enter Tryz.func134, Tryz.ntmps134
  go_wp2_with fail
  go_loopw [8] (fun i wx => ∃ k : Nat, k ≤ L.length ∧ i = .int .i64 (k : Int) ∧ idxL L s 0 = idxL (L.drop k) s k ∧ wx = w) (fun i _ => L.length - (intOf i).toNat)
  case atStart => exact ⟨0, Nat.zero_le _, rfl, rfl, rfl⟩
  case round =>
    obtain ⟨k, hk, rfl, hi, rfl⟩ := hrel
    have HI := Lib.hid hi
    by_cases hkl : k = L.length
    · have hkz : ¬ (k : Int) < (L.length : Int) := by omega
      have HKL := Lib.hid hkl
      clear hi hk hkl
      go_wp2_with fail
      go_ret
      rw [HI.out, HKL.out, List.drop_length]
      exact ⟨rfl, rfl⟩
    · have hkz : (k : Int) < (L.length : Int) := by omega
      have HKL : Hid (k < L.length) := Lib.hid (by omega)
      obtain ⟨b, off, ha, hb, hc⟩ := HL.out k HKL.out
      subst ha
      have HD := Lib.hid (List.drop_eq_getElem_cons HKL.out)
      obtain ⟨x, hx⟩ : ∃ x, L[k]'HKL.out = x := ⟨_, rfl⟩
      rw [hx] at hc HD
      have HX := Lib.hid hx
      clear hi hk hkl hx hb
      by_cases he : x = s
      · have heb : (s.toList == x.toList) = true := by rw [beq_str]; exact decide_eq_true he.symm
        have HE := Lib.hid he
        clear he
        go_wp2_with fail
        go_ret
        rw [HI.out, HD.out]
        unfold idxL
        rw [if_pos HE.out]
        exact ⟨rfl, rfl⟩
      · have heb : (s.toList == x.toList) = false := by rw [beq_str]; exact decide_eq_false (fun e => he e.symm)
        have HE := Lib.hid he
        clear he
        go_wp2_with fail
        refine ⟨⟨k + 1, HKL.out, by go_num, ?_, trivial⟩, by have := HKL.out; simp [intOf]; omega⟩
        rw [HI.out, HD.out]
        conv => lhs; unfold idxL
        rw [if_neg HE.out]
theorem contains_112 (a : Option Addr) (cp : Nat) (L : List ByteArray) (s : ByteArray) (w : World) (hl : L.length < 2 ^ 62) (hL : StrsAt w a L) : Calls Tryz.prog 112 #[.slice a L.length cp, .string s] w fun e w' => e = .returned (.bool (inL L s)) ∧ w = w' := by
  have M := Lib.hid (index_134 a cp L s w hl hL)
  have HI := Lib.hid (idxL_in s L 0)
  clear hl hL
  go_enter Tryz.func112, Tryz.ntmps112
  go_wp2_with fail
  refine M.out.mono ?_
  rintro e w' ⟨rfl, rfl⟩
  go_wp2_with fail
  go_ret
  rw [HI.out]
  exact ⟨rfl, rfl⟩
theorem strs_row {w : World} {g : Nat} {L : List ByteArray} (h : w.heap[g]? = some (.cells (L.map Value.string).toArray 9 (0, 0))) : StrsAt w (some ⟨g, 0, none⟩) L := fun i hi => by
  refine ⟨g, 0, rfl, (Array.getElem?_eq_some_iff.1 h).1, ?_⟩
  rw [Nat.zero_add, cell_of_row _ _ i _ _ _ h, List.getElem?_toArray, List.getElem?_map, List.getElem?_eq_getElem hi]
  rfl
/-- Texts out of one text. -/
theorem fields_70 {W : World} (hE : Env W) (s : ByteArray) (L : List ByteArray) (hs : Words s L) (w : World) (hW : Below W.heap.size W w) : Calls Tryz.prog 70 #[.string s] w fun e w' => e = .returned (.slice (some ⟨w.heap.size, 0, none⟩) L.length L.length) ∧ Below w.heap.size w w' ∧ StrsAt w' (some ⟨w.heap.size, 0, none⟩) L := by
  obtain ⟨h0, h1, h2, h3⟩ := hs
  have M := hE.flds s h1 h2 w hW
  rw [h3, words_row, List.length_map] at M
  refine M.mono ?_
  rintro e w' ⟨rfl, rfl⟩
  exact ⟨rfl, (Below.refl _ _).alloc (Nat.le_refl _) _, strs_row (newest _ _)⟩
end Go.Proofs.YtigicmnngppipaaGreatDoor.Tp
/- Keywords; a name is taken. Condition: the table of blanks. -/
namespace Go.Proofs.YtigicmnngppipaaGreatDoor.Tp
open Go.RowKit Lx
set_option maxRecDepth 100000
theorem funcs_113 (W w : World) (hE : Env W) (hW : Below W.heap.size W w) : Calls Tryz.prog 113 #[] w fun e w' => e = .returned (.slice (some ⟨w.heap.size, 0, none⟩) fns.length fns.length) ∧ Below w.heap.size w w' ∧ StrsAt w' (some ⟨w.heap.size, 0, none⟩) fns := by
  have M := Lib.hid (fun s hs => fields_70 hE s fns hs w hW)
  clear hE hW
  go_enter Tryz.func113, Tryz.ntmps113
  go_wp2_with fail
  refine (M.out _ ⟨by decide, by decide, by decide, by decide⟩).mono ?_
  rintro e w' ⟨rfl, h1, h2⟩
  have H1 := Lib.hid h1
  have H2 := Lib.hid h2
  clear h1 h2
  go_wp2_with fail
  go_ret
  exact ⟨rfl, H1.out, H2.out⟩
theorem keyword_73 (s : ByteArray) (W w : World) (hE : Env W) (hW : Below W.heap.size W w) : Calls Tryz.prog 73 #[.string s] w fun e w' => e = .returned (.bool (kwB s)) ∧ Below w.heap.size w w' := by
  have M := Lib.hid (fun t ht => fields_70 hE t kws ht w hW)
  have MF := Lib.hid (fun w2 (hb : Below w.heap.size w w2) => funcs_113 W w2 hE (hW.trans (hb.mono hW.size)))
  have MI := Lib.hid (fun a cp L w2 hl hL => contains_112 a cp L s w2 hl hL)
  have hkw : kwB s = (inL kws s || inL fns s) := rfl
  obtain ⟨b1, hb1⟩ : ∃ b, inL kws s = b := ⟨_, rfl⟩
  obtain ⟨b2, hb2⟩ : ∃ b, inL fns s = b := ⟨_, rfl⟩
  rw [hkw, hb1, hb2]
  have HB1 := Lib.hid hb1
  have HB2 := Lib.hid hb2
  clear hE hW hkw hb1 hb2
  go_enter Tryz.func73, Tryz.ntmps73
  go_wp2_with fail
  refine (M.out _ ⟨by decide, by decide, by decide, by decide⟩).mono ?_
  rintro e w1 ⟨rfl, h1, h2⟩
  have H1 := Lib.hid h1
  have H2 := Lib.hid h2
  clear h1 h2
  go_wp2_with fail
  refine (MI.out _ kws.length kws w1 (by decide) H2.out).mono ?_
  rw [HB1.out]
  rintro e w2 ⟨rfl, rfl⟩
  cases b1 with
  | true =>
    go_wp2_with fail
    go_ret
    exact ⟨rfl, H1.out⟩
  | false =>
    go_wp2_with fail
    refine (MF.out w1 H1.out).mono ?_
    rintro e w3 ⟨rfl, h3, h4⟩
    have H3 := Lib.hid h3
    have H4 := Lib.hid h4
    clear h3 h4
    go_wp2_with fail
    refine (MI.out _ fns.length fns w3 (by decide) H4.out).mono ?_
    rw [HB2.out]
    rintro e w4 ⟨rfl, rfl⟩
    go_wp2_with fail
    go_ret
    exact ⟨rfl, H1.out.trans (H3.out.mono H1.out.size)⟩
end Go.Proofs.YtigicmnngppipaaGreatDoor.Tp
/- A name, a sign are taken. Condition: the table of blanks. -/
namespace Go.Proofs.YtigicmnngppipaaGreatDoor.Tp
open Go.RowKit Lx
set_option maxRecDepth 100000
theorem hd_cons {ts : List Tok} {t : Tok} (h : hdT ts = t) (hk : t.1 ≠ 0) : ∃ r, ts = t :: r := by
  cases ts with
  | nil => rw [← h] at hk; exact absurd rfl hk
  | cons t0 r => exact ⟨r, by rw [← h]; rfl⟩
theorem nameP_cons (t : Tok) (r : List Tok) : nameP (t :: r) = if nameOk t then .ok (t.2.1, r) else .error (t :: r) := rfl
theorem name_ok {ts : List Tok} {t : Tok} (h : hdT ts = t) (hn : nameOk t = true) : ∃ r, ts = t :: r ∧ nameP ts = .ok (t.2.1, r) := by
  have hk : t.1 ≠ 0 := by
    intro e
    unfold nameOk at hn
    rw [e] at hn
    simp at hn
  obtain ⟨r, rfl⟩ := hd_cons h hk
  exact ⟨r, rfl, by rw [nameP_cons, hn]; rfl⟩
theorem name_no {ts : List Tok} {t : Tok} (h : hdT ts = t) (hn : nameOk t = false) : nameP ts = .error ts := by
  cases ts with
  | nil => rfl
  | cons t0 r =>
    have : t0 = t := h
    subst this
    rw [nameP_cons, hn]
    rfl
set_option maxHeartbeats 4000000 in
theorem name_43 (P n o : Nat) (ts : List Tok) (W w : World) (hE : Env W) (hW : Below W.heap.size W w) (hP : PAt w P ts n o) :
    Calls Tryz.prog 43 #[.pointer (some ⟨P, 0, none⟩)] w (Out P n o w (nameP ts) Value.string) := by
  have M71 := Lib.hid (peek_71 P n o ts w hP)
  have hsz := (hd_sz hP).1
  obtain ⟨⟨kd, tx, at_⟩, ht⟩ : ∃ t, hdT ts = t := ⟨_, rfl⟩
  rw [ht] at M71 hsz
  unfold tokV at M71
  have MK := Lib.hid (fun w2 (hb : Below w.heap.size w w2) => keyword_73 tx W w2 hE (hW.trans (hb.mono hW.size)))
  have MV := Lib.hid (fun w2 => Ser.vname tx w2 (Nat.le_trans hsz (by decide)))
  have HP := Lib.hid hP
  have HT := Lib.hid ht
  obtain ⟨PP, hPP⟩ : ∃ PP, Out P n o w (nameP ts) Value.string = PP := ⟨_, rfl⟩
  rw [hPP]
  have HPP := Lib.hid hPP
  obtain ⟨kb, hkb⟩ : ∃ b, kwB tx = b := ⟨_, rfl⟩
  obtain ⟨nb, hnb⟩ : ∃ b, Ser.nameB tx.data.toList = b := ⟨_, rfl⟩
  rw [hkb] at MK
  rw [hnb] at MV
  have hok : nameOk (kd, tx, at_) = ((decide (kd = 2) || (decide (kd = 1) && !kb)) && nb) := by unfold nameOk; rw [hkb, hnb]
  have HOK := Lib.hid hok
  clear hE hW hP hsz ht hPP hkb hnb hok
  go_enter Tryz.func43, Tryz.ntmps43
  go_wp2_with fail
  refine M71.out.mono ?_
  rintro e w1 ⟨rfl, hb1⟩
  have HB2 : Hid (Below w.heap.size w (w1.alloc (.cells #[.int .i64 kd, .string tx, .int .i64 at_] 96 (0, 0)))) := Lib.hid (hb1.alloc hb1.size _)
  have hnew := newest w1 (.cells #[.int .i64 kd, .string tx, .int .i64 at_] 96 (0, 0))
  have HNEW := Lib.hid hnew
  have HB1 := Lib.hid hb1
  clear hb1 hnew
  have HPL : Hid (P < w1.heap.size) := Lib.hid (Nat.lt_of_lt_of_le HP.out.lt HB1.out.size)
  by_cases h2 : kd = 2
  · subst h2
    go_wp2_with fail
    refine (MV.out _).mono ?_
    rintro e w6 ⟨rfl, hb6⟩
    have HB6 := Lib.hid (HB2.out.trans (hb6.mono HB2.out.size))
    have hc6 := (hb6.block _ (lt_of_block HNEW.out)).trans HNEW.out
    have HNW := Lib.hid hc6
    have d1 : w6.cell? ⟨w1.heap.size, 1, none⟩ = some (.string tx) := Lib.cell_of_heap hc6 1
    clear hb6 hc6
    cases nb with
    | true =>
      have HN : Hid (nameOk (2, tx, at_) = true) := Lib.hid (by rw [HOK.out]; rfl)
      go_wp2_with fail
      obtain ⟨r, hr, hn⟩ := name_ok HT.out HN.out
      have HNN := Lib.hid hn
      have HP9 := Lib.hid (show PAt _ P ((_, tx, at_) :: r) n o from hr ▸ HP.out.later HB6.out)
      clear hr hn
      refine (pop_72 P n o _ r _ HP9.out).mono ?_
      rintro e w9 ⟨rfl, hk9, hp9⟩
      have hc9 := (hk9.block _ (lt_of_block HNW.out) (by show ¬ w1.heap.size = P; have := HPL.out; omega)).trans HNW.out
      have d1 : w9.cell? ⟨w1.heap.size, 1, none⟩ = some (.string tx) := Lib.cell_of_heap hc9 1
      have HK9 := Lib.hid hk9
      have HQ9 := Lib.hid hp9
      clear hk9 hp9 hc9
      go_wp2_with fail
      rw [← HPP.out, HNN.out]
      exact ⟨(Kp.of HB6.out).then HK9.out, rfl, HQ9.out⟩
    | false =>
      have HN : Hid (nameOk (2, tx, at_) = false) := Lib.hid (by rw [HOK.out]; simp)
      go_wp2_with fail
      refine (wrong_24 P n o ts _ (HP.out.later HB6.out)).mono ?_
      rintro e w9 ⟨rfl, rfl⟩
      unfold stuckE
      simp (config := { zetaDelta := true }) only
      refine ⟨rfl, ?_⟩
      rw [← HPP.out, name_no HT.out HN.out]
      exact ⟨Kp.of HB6.out, rfl⟩
  · have h2b : (kd == 2) = false := beq_eq_false_iff_ne.2 h2
    by_cases h1 : kd = 1
    · subst h1
      clear h2 h2b
      go_wp2_with fail
      refine (MK.out _ HB2.out).mono ?_
      rintro e w5 ⟨rfl, hb5⟩
      have HB5 := Lib.hid (HB2.out.trans (hb5.mono HB2.out.size))
      have hc5 := (hb5.block _ (lt_of_block HNEW.out)).trans HNEW.out
      have HNK := Lib.hid hc5
      have d1 : w5.cell? ⟨w1.heap.size, 1, none⟩ = some (.string tx) := Lib.cell_of_heap hc5 1
      clear hb5 hc5
      cases kb with
      | true =>
        have HN : Hid (nameOk (1, tx, at_) = false) := Lib.hid (by rw [HOK.out]; rfl)
        go_wp2_with fail
        refine (wrong_24 P n o ts _ (HP.out.later HB5.out)).mono ?_
        rintro e w9 ⟨rfl, rfl⟩
        unfold stuckE
        simp (config := { zetaDelta := true }) only
        refine ⟨rfl, ?_⟩
        rw [← HPP.out, name_no HT.out HN.out]
        exact ⟨Kp.of HB5.out, rfl⟩
      | false =>
        go_wp2_with fail
        refine (MV.out _).mono ?_
        rintro e w6 ⟨rfl, hb6⟩
        have HB6 := Lib.hid (HB5.out.trans (hb6.mono HB5.out.size))
        have hc6 := (hb6.block _ (lt_of_block HNK.out)).trans HNK.out
        have HNW := Lib.hid hc6
        have d1 : w6.cell? ⟨w1.heap.size, 1, none⟩ = some (.string tx) := Lib.cell_of_heap hc6 1
        clear hb6 hc6
        cases nb with
        | true =>
          have HN : Hid (nameOk (1, tx, at_) = true) := Lib.hid (by rw [HOK.out]; rfl)
          go_wp2_with fail
          obtain ⟨r, hr, hn⟩ := name_ok HT.out HN.out
          have HNN := Lib.hid hn
          have HP9 := Lib.hid (show PAt _ P ((_, tx, at_) :: r) n o from hr ▸ HP.out.later HB6.out)
          clear hr hn
          refine (pop_72 P n o _ r _ HP9.out).mono ?_
          rintro e w9 ⟨rfl, hk9, hp9⟩
          have hc9 := (hk9.block _ (lt_of_block HNW.out) (by show ¬ w1.heap.size = P; have := HPL.out; omega)).trans HNW.out
          have d1 : w9.cell? ⟨w1.heap.size, 1, none⟩ = some (.string tx) := Lib.cell_of_heap hc9 1
          have HK9 := Lib.hid hk9
          have HQ9 := Lib.hid hp9
          clear hk9 hp9 hc9
          go_wp2_with fail
          rw [← HPP.out, HNN.out]
          exact ⟨(Kp.of HB6.out).then HK9.out, rfl, HQ9.out⟩
        | false =>
          have HN : Hid (nameOk (1, tx, at_) = false) := Lib.hid (by rw [HOK.out]; simp)
          go_wp2_with fail
          refine (wrong_24 P n o ts _ (HP.out.later HB6.out)).mono ?_
          rintro e w9 ⟨rfl, rfl⟩
          unfold stuckE
          simp (config := { zetaDelta := true }) only
          refine ⟨rfl, ?_⟩
          rw [← HPP.out, name_no HT.out HN.out]
          exact ⟨Kp.of HB6.out, rfl⟩
    · have h1b : (kd == 1) = false := beq_eq_false_iff_ne.2 h1
      have HN : Hid (nameOk (kd, tx, at_) = false) := Lib.hid (by rw [HOK.out, decide_eq_false h2, decide_eq_false h1]; rfl)
      clear h1 h2
      go_wp2_with fail
      refine (wrong_24 P n o ts _ (HP.out.later HB2.out)).mono ?_
      rintro e w9 ⟨rfl, rfl⟩
      unfold stuckE
      simp (config := { zetaDelta := true }) only
      refine ⟨rfl, ?_⟩
      rw [← HPP.out, name_no HT.out HN.out]
      exact ⟨Kp.of HB2.out, rfl⟩
end Go.Proofs.YtigicmnngppipaaGreatDoor.Tp
