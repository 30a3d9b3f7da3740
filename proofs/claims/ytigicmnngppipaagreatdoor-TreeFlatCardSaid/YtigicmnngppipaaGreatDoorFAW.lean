/- Several texts of this proof, laid together. Conditions: as each says. -/
import Derived.Test.YtigicmnngppipaaGreatDoorFAV
import Derived.Test.YtigicmnngppipaaGreatDoorFAU
/- A sign, an integer, a number are taken. Conditions: what ParseInt and the reader of values answer. -/
namespace Go.Proofs.YtigicmnngppipaaGreatDoor.Tp
open Go.RowKit Lx
set_option maxRecDepth 100000
/-- What the parser wants of the readers of numbers. -/
structure Rd (V : List UInt8 → Value × Int) (W : World) : Prop where
  env : Env W
  pint : ∀ s : ByteArray, s.size ≤ 70000 → ∀ w, Below W.heap.size W w → Calls Tryz.prog 117 #[.string s, .int .i64 10, .int .i64 64] w fun e w' => Below w.heap.size w w' ∧
    ((∃ n, Lib.parseIntB 64 s.data.toList = .ok n ∧ e = .returned (.tuple #[.int .i64 n, .nilIface])) ∨ ((∀ n, Lib.parseIntB 64 s.data.toList ≠ .ok n) ∧ ∃ n N, e = .returned (.tuple #[.int .i64 n, .iface 225 (.pointer (some ⟨N, 0, none⟩))])))
  vpar : ∀ s : ByteArray, s.size ≤ 70000 → ∀ w, Below W.heap.size W w → Calls Tryz.prog 116 #[.string s] w fun e w' => e = .returned (.tuple #[(V s.data.toList).1, .int .i64 (V s.data.toList).2]) ∧ Below w.heap.size w w'
  vform : ∀ l, ∃ k b t n, V l = (.agg #[.int .i64 k, .int .u64 b, .string t], n)
theorem signP_cons (t : Tok) (r : List Tok) : signP (t :: r) = if signOk t then .ok (t.2.1, r) else .error (t :: r) := rfl
theorem sign_ok {ts : List Tok} {t : Tok} (h : hdT ts = t) (hn : signOk t = true) : ∃ r, ts = t :: r ∧ signP ts = .ok (t.2.1, r) := by
  have hk : t.1 ≠ 0 := by
    intro e
    unfold signOk at hn
    rw [e] at hn
    simp at hn
  obtain ⟨r, rfl⟩ := hd_cons h hk
  exact ⟨r, rfl, by rw [signP_cons, hn]; rfl⟩
theorem sign_no {ts : List Tok} {t : Tok} (h : hdT ts = t) (hn : signOk t = false) : signP ts = .error ts := by
  cases ts with
  | nil => rfl
  | cons t0 r =>
    have : t0 = t := h
    subst this
    rw [signP_cons, hn]
    rfl
theorem intP_cons (a b : Int) (t : Tok) (r : List Tok) : intP a b (t :: r) = match intOk a b t with | some n => .ok (n, r) | none => .error (t :: r) := rfl
theorem int_ok {ts : List Tok} {t : Tok} {a b n : Int} (h : hdT ts = t) (hn : intOk a b t = some n) : ∃ r, ts = t :: r ∧ intP a b ts = .ok (n, r) := by
  have hk : t.1 ≠ 0 := by
    intro e
    unfold intOk at hn
    rw [e] at hn
    split at hn
    · simp at hn
    · cases hn
  obtain ⟨r, rfl⟩ := hd_cons h hk
  exact ⟨r, rfl, by rw [intP_cons, hn]⟩
theorem int_no {ts : List Tok} {t : Tok} {a b : Int} (h : hdT ts = t) (hn : intOk a b t = none) : intP a b ts = .error ts := by
  cases ts with
  | nil => rfl
  | cons t0 r =>
    have : t0 = t := h
    subst this
    rw [intP_cons, hn]
theorem ascii_get {l : List UInt8} (h : l.all (fun b => decide (b.toNat < 128)) = true) : ∀ (j : Nat) b, l[j]? = some b → b.toNat < 128 := fun j b hj => by
  have := List.all_eq_true.1 h b (List.mem_of_getElem? hj)
  simpa using this
set_option maxHeartbeats 4000000 in
theorem sign_164 (P n o : Nat) (ts : List Tok) (w : World) (hP : PAt w P ts n o) :
    Calls Tryz.prog 164 #[.pointer (some ⟨P, 0, none⟩)] w (Out P n o w (signP ts) Value.string) := by
  have M71 := Lib.hid (peek_71 P n o ts w hP)
  have hsz := hd_sz hP
  obtain ⟨⟨kd, tx, at_⟩, ht⟩ : ∃ t, hdT ts = t := ⟨_, rfl⟩
  rw [ht] at M71 hsz
  unfold tokV at M71
  have MC := Lib.hid (fun (hk : kd = 5) w2 => Tryz.strings_ContainsAny_laid tx ⟨#[61, 60, 62]⟩ w2 (by have := hsz.1; simp only at this; omega) (by decide) (ascii_get (hsz.2 hk)) (ascii_get (by decide)))
  have HP := Lib.hid hP
  have HT := Lib.hid ht
  obtain ⟨PP, hPP⟩ : ∃ PP, Out P n o w (signP ts) Value.string = PP := ⟨_, rfl⟩
  rw [hPP]
  have HPP := Lib.hid hPP
  obtain ⟨cb, hcb⟩ : ∃ b, Lib.containsAny tx.data.toList [61, 60, 62] = b := ⟨_, rfl⟩
  have hok : signOk (kd, tx, at_) = (decide (kd = 5) && cb) := by unfold signOk; rw [hcb]
  have hcb2 : Lib.containsAny tx.data.toList (⟨#[61, 60, 62]⟩ : ByteArray).data.toList = cb := hcb
  rw [hcb2] at MC
  have HOK := Lib.hid hok
  clear hP hsz ht hPP hcb hcb2 hok
  go_enter Tryz.func164, Tryz.ntmps164
  go_wp2_with fail
  refine M71.out.mono ?_
  rintro e w1 ⟨rfl, hb1⟩
  have HB2 : Hid (Below w.heap.size w (w1.alloc (.cells #[.int .i64 kd, .string tx, .int .i64 at_] 96 (0, 0)))) := Lib.hid (hb1.alloc hb1.size _)
  have hnew := newest w1 (.cells #[.int .i64 kd, .string tx, .int .i64 at_] 96 (0, 0))
  have HNEW := Lib.hid hnew
  have HPL : Hid (P < w1.heap.size) := Lib.hid (Nat.lt_of_lt_of_le HP.out.lt hb1.size)
  clear hb1 hnew
  by_cases h5 : kd = 5
  · subst h5
    go_wp2_with fail
    refine (MC.out trivial _).mono ?_
    rintro e w6 ⟨rfl, hb6⟩
    have HB6 := Lib.hid (HB2.out.trans (hb6.mono HB2.out.size))
    have hc6 := (hb6.block _ (lt_of_block HNEW.out)).trans HNEW.out
    have HNW := Lib.hid hc6
    clear hb6 hc6
    cases cb with
    | true =>
      have HN : Hid (signOk (5, tx, at_) = true) := Lib.hid (by rw [HOK.out]; rfl)
      go_wp2_with fail
      obtain ⟨r, hr, hn⟩ := sign_ok HT.out HN.out
      have HNN := Lib.hid hn
      have HP9 := Lib.hid (show PAt _ P ((_, tx, at_) :: r) n o from hr ▸ HP.out.later HB6.out)
      clear hr hn
      refine (pop_72 P n o _ r _ HP9.out).mono ?_
      rintro e w9 ⟨rfl, hk9, hp9⟩
      have hc9 := (hk9.block _ (lt_of_block HNW.out) (by show ¬ w1.heap.size = P; have := HPL.out; omega)).trans HNW.out
      have d1 : w9.cell? ⟨w1.heap.size, 1, none⟩ = some (.string tx) := Lib.cell_of_heap hc9 1
      have HK9 := Lib.hid hk9
      have HQ9 := Lib.hid hp9
      clear hk9 hp9 hc9
      go_wp2_with fail
      rw [← HPP.out, HNN.out]
      exact ⟨(Kp.of HB6.out).then HK9.out, rfl, HQ9.out⟩
    | false =>
      have HN : Hid (signOk (5, tx, at_) = false) := Lib.hid (by rw [HOK.out]; rfl)
      go_wp2_with fail
      refine (wrong_24 P n o ts _ (HP.out.later HB6.out)).mono ?_
      rintro e w9 ⟨rfl, rfl⟩
      unfold stuckE
      simp (config := { zetaDelta := true }) only
      refine ⟨rfl, ?_⟩
      rw [← HPP.out, sign_no HT.out HN.out]
      exact ⟨Kp.of HB6.out, rfl⟩
  · have h5b : (kd != 5) = true := by simp [h5]
    have HN : Hid (signOk (kd, tx, at_) = false) := Lib.hid (by rw [HOK.out, decide_eq_false h5]; rfl)
    clear h5
    go_wp2_with fail
    refine (wrong_24 P n o ts _ (HP.out.later HB2.out)).mono ?_
    rintro e w9 ⟨rfl, rfl⟩
    unfold stuckE
    simp (config := { zetaDelta := true }) only
    refine ⟨rfl, ?_⟩
    rw [← HPP.out, sign_no HT.out HN.out]
    exact ⟨Kp.of HB2.out, rfl⟩
set_option maxHeartbeats 4000000 in
theorem integer_80 (a b : Int) (P n o : Nat) (ts : List Tok) {V : List UInt8 → Value × Int} (W w : World) (hR : Rd V W) (hW : Below W.heap.size W w) (hP : PAt w P ts n o) :
    Calls Tryz.prog 80 #[.pointer (some ⟨P, 0, none⟩), .int .i64 a, .int .i64 b] w (Out P n o w (intP a b ts) fun n => Value.int .i64 n) := by
  have M71 := Lib.hid (peek_71 P n o ts w hP)
  have hsz := (hd_sz hP).1
  obtain ⟨⟨kd, tx, at_⟩, ht⟩ : ∃ t, hdT ts = t := ⟨_, rfl⟩
  rw [ht] at M71 hsz
  unfold tokV at M71
  have MI := Lib.hid (fun w2 (hb : Below w.heap.size w w2) => hR.pint tx hsz w2 (hW.trans (hb.mono hW.size)))
  have HP := Lib.hid hP
  have HT := Lib.hid ht
  obtain ⟨PP, hPP⟩ : ∃ PP, Out P n o w (intP a b ts) (fun n => Value.int .i64 n) = PP := ⟨_, rfl⟩
  rw [hPP]
  have HPP := Lib.hid hPP
  clear hR hW hP hsz ht hPP
  go_enter Tryz.func80, Tryz.ntmps80
  go_wp2_with fail
  refine M71.out.mono ?_
  rintro e w1 ⟨rfl, hb1⟩
  have HB2 : Hid (Below w.heap.size w (w1.alloc (.cells #[.int .i64 kd, .string tx, .int .i64 at_] 96 (0, 0)))) := Lib.hid (hb1.alloc hb1.size _)
  have hnew := newest w1 (.cells #[.int .i64 kd, .string tx, .int .i64 at_] 96 (0, 0))
  have HNEW := Lib.hid hnew
  have HPL : Hid (P < w1.heap.size) := Lib.hid (Nat.lt_of_lt_of_le HP.out.lt hb1.size)
  clear hb1 hnew
  go_wp2_with fail
  refine (MI.out _ HB2.out).mono ?_
  rintro e w6 ⟨hb6, hr6⟩
  have HB6 := Lib.hid (HB2.out.trans (hb6.mono HB2.out.size))
  have hc6 := (hb6.block _ (lt_of_block HNEW.out)).trans HNEW.out
  have c0 : w6.cell? ⟨w1.heap.size, 0, none⟩ = some (.int .i64 kd) := Lib.cell_of_heap hc6 0
  clear hb6 hc6
  rcases hr6 with ⟨m, hm, rfl⟩ | ⟨hm, m, N, rfl⟩
  · have hok : intOk a b (kd, tx, at_) = if kd = 3 ∧ a ≤ m ∧ m ≤ b then some m else none := by unfold intOk; simp only [hm]
    have HOK := Lib.hid hok
    clear hm hok
    by_cases h3 : kd = 3
    · subst h3
      by_cases ha : m < a
      · have HN : Hid (intOk a b (3, tx, at_) = none) := Lib.hid (by rw [HOK.out, if_neg (by omega)])
        go_wp2_with fail
        refine (wrong_24 P n o ts _ (HP.out.later HB6.out)).mono ?_
        rintro e w9 ⟨rfl, rfl⟩
        unfold stuckE
        simp (config := { zetaDelta := true }) only
        refine ⟨rfl, ?_⟩
        rw [← HPP.out, int_no HT.out HN.out]
        exact ⟨Kp.of HB6.out, rfl⟩
      · by_cases hb : b < m
        · have HN : Hid (intOk a b (3, tx, at_) = none) := Lib.hid (by rw [HOK.out, if_neg (by omega)])
          go_wp2_with fail
          refine (wrong_24 P n o ts _ (HP.out.later HB6.out)).mono ?_
          rintro e w9 ⟨rfl, rfl⟩
          unfold stuckE
          simp (config := { zetaDelta := true }) only
          refine ⟨rfl, ?_⟩
          rw [← HPP.out, int_no HT.out HN.out]
          exact ⟨Kp.of HB6.out, rfl⟩
        · have HN : Hid (intOk a b (3, tx, at_) = some m) := Lib.hid (by rw [HOK.out, if_pos ⟨rfl, by omega, by omega⟩])
          go_wp2_with fail
          obtain ⟨r, hr, hn⟩ := int_ok HT.out HN.out
          have HNN := Lib.hid hn
          have HP9 := Lib.hid (show PAt _ P ((_, tx, at_) :: r) n o from hr ▸ HP.out.later HB6.out)
          clear hr hn
          refine (pop_72 P n o _ r _ HP9.out).mono ?_
          rintro e w9 ⟨rfl, hk9, hp9⟩
          have HK9 := Lib.hid hk9
          have HQ9 := Lib.hid hp9
          clear hk9 hp9
          go_wp2_with fail
          rw [← HPP.out, HNN.out]
          exact ⟨(Kp.of HB6.out).then HK9.out, rfl, HQ9.out⟩
    · have h3b : (kd != 3) = true := by simp [h3]
      have HN : Hid (intOk a b (kd, tx, at_) = none) := Lib.hid (by rw [HOK.out, if_neg (fun q => h3 q.1)])
      clear h3
      go_wp2_with fail
      refine (wrong_24 P n o ts _ (HP.out.later HB6.out)).mono ?_
      rintro e w9 ⟨rfl, rfl⟩
      unfold stuckE
      simp (config := { zetaDelta := true }) only
      refine ⟨rfl, ?_⟩
      rw [← HPP.out, int_no HT.out HN.out]
      exact ⟨Kp.of HB6.out, rfl⟩
  · have hok : intOk a b (kd, tx, at_) = none := by
      unfold intOk
      split
      · rename_i q hq; exact absurd hq (hm q)
      · rfl
    have HN := Lib.hid hok
    clear hm hok
    by_cases h3 : kd = 3
    · subst h3
      go_wp2_with fail
      refine (wrong_24 P n o ts _ (HP.out.later HB6.out)).mono ?_
      rintro e w9 ⟨rfl, rfl⟩
      unfold stuckE
      simp (config := { zetaDelta := true }) only
      refine ⟨rfl, ?_⟩
      rw [← HPP.out, int_no HT.out HN.out]
      exact ⟨Kp.of HB6.out, rfl⟩
    · have h3b : (kd != 3) = true := by simp [h3]
      clear h3
      go_wp2_with fail
      refine (wrong_24 P n o ts _ (HP.out.later HB6.out)).mono ?_
      rintro e w9 ⟨rfl, rfl⟩
      unfold stuckE
      simp (config := { zetaDelta := true }) only
      refine ⟨rfl, ?_⟩
      rw [← HPP.out, int_no HT.out HN.out]
      exact ⟨Kp.of HB6.out, rfl⟩
end Go.Proofs.YtigicmnngppipaaGreatDoor.Tp
/- A number is taken, if one is next. Conditions: what ParseInt and the reader of values answer. -/
namespace Go.Proofs.YtigicmnngppipaaGreatDoor.Tp
open Go.RowKit Lx
set_option maxRecDepth 100000
def valV (v : Val) : Value := .agg #[.int .i64 v.1, .int .u64 v.2.1, .string v.2.2]
def NumOut (V : List UInt8 → Value × Int) (P n o : Nat) (w : World) (ts : List Tok) (e : Ending) (w' : World) : Prop :=
  Kp (· = P) w w' ∧ match numP V ts with
  | some (v, r) => e = .returned (.tuple #[valV v, .bool true]) ∧ PAt w' P r n o
  | none => e = .returned (.tuple #[valV val0, .bool false]) ∧ PAt w' P ts n o
/-- A value's block overwritten. -/
def put3 (w : World) (B : Nat) (x y z : Value) : World := ((w.setCell ⟨B, 0, none⟩ x).setCell ⟨B, 1, none⟩ y).setCell ⟨B, 2, none⟩ z
theorem put3_heap {w : World} {B : Nat} {T : TypeId} {a b c : Value} (h : w.heap[B]? = some (.cells #[a, b, c] T (0, 0))) (x y z : Value) : (put3 w B x y z).heap[B]? = some (.cells #[x, y, z] T (0, 0)) := by
  have h1 := heap_setCell_same w B 0 _ _ x h
  have h2 := heap_setCell_same _ B 1 _ _ y h1
  have h3 := heap_setCell_same _ B 2 _ _ z h2
  exact h3
theorem put3_kp {S : Nat → Prop} {a w : World} (h : Kp S a w) {B : Nat} (hB : a.heap.size ≤ B) (x y z : Value) : Kp S a (put3 w B x y z) :=
  ((h.set (p := ⟨B, 0, none⟩) (.inr hB) x).set (p := ⟨B, 1, none⟩) (.inr hB) y).set (p := ⟨B, 2, none⟩) (.inr hB) z
theorem put3_pat {w : World} {P n o B : Nat} {ts : List Tok} (h : PAt w P ts n o) (hB : P < B) (x y z : Value) : PAt (put3 w B x y z) P ts n o :=
  ((h.set (p := ⟨B, 0, none⟩) hB x).set (p := ⟨B, 1, none⟩) hB y).set (p := ⟨B, 2, none⟩) hB z
theorem num_some {V : List UInt8 → Value × Int} {ts : List Tok} {t : Tok} {v : Val} (h : hdT ts = t) (hn : numV V t = some v) : ∃ r, ts = t :: r ∧ numP V ts = some (v, r) := by
  have hk : t.1 ≠ 0 := by
    intro e
    unfold numV at hn
    rw [if_neg (by rw [e]; decide)] at hn
    cases hn
  obtain ⟨r, rfl⟩ := hd_cons h hk
  exact ⟨r, rfl, by simp [numP, hn]⟩
theorem num_none {V : List UInt8 → Value × Int} {ts : List Tok} {t : Tok} (h : hdT ts = t) (hn : numV V t = none) : numP V ts = none := by
  cases ts with
  | nil => rfl
  | cons t0 r =>
    have : t0 = t := h
    subst this
    simp [numP, hn]
theorem has46 (l : List UInt8) : decide (0 ≤ Lib.indexByte l 46) = l.contains 46 := by
  induction l with
  | nil => rfl
  | cons c l ih =>
    rw [List.contains_cons]
    unfold Lib.indexByte
    by_cases h : c = 46
    · subst h; simp
    · have hb : (c == 46) = false := beq_eq_false_iff_ne.2 h
      have hb2 : ((46 : UInt8) == c) = false := beq_eq_false_iff_ne.2 (Ne.symm h)
      rw [hb2, Bool.false_or, ← ih]
      have hge : -1 ≤ Lib.indexByte l 46 := Lib.indexByte_ge l 46
      simp only [hb]
      rw [if_neg (by decide)]
      congr 1
      rw [eq_iff_iff]
      split
      · rename_i he
        have := eq_of_beq he
        omega
      · rename_i he
        have : Lib.indexByte l 46 ≠ -1 := fun e => he (by rw [e]; rfl)
        omega
theorem build28 (x : Int) (w : World) : (Instr.build 28 #[(0, .int .i64 2), (1, .int .u64 x)]).run Tryz.prog w = .ok (.agg #[.int .i64 2, .int .u64 x, .string ⟨#[]⟩]) w := by kernel_rfl
set_option maxHeartbeats 4000000 in
theorem number_79 (P n o : Nat) (ts : List Tok) {V : List UInt8 → Value × Int} (W w : World) (hR : Rd V W) (hW : Below W.heap.size W w) (hP : PAt w P ts n o) :
    Calls Tryz.prog 79 #[.pointer (some ⟨P, 0, none⟩)] w (NumOut V P n o w ts) := by
  have hsz := (hd_sz hP).1
  have M71 := Lib.hid (fun w2 (hb : Below w.heap.size w w2) => peek_71 P n o ts w2 (hP.later hb))
  obtain ⟨⟨kd, tx, at_⟩, ht⟩ : ∃ t, hdT ts = t := ⟨_, rfl⟩
  rw [ht] at M71 hsz
  unfold tokV at M71
  have MI := Lib.hid (fun w2 (hb : Below w.heap.size w w2) => hR.pint tx hsz w2 (hW.trans (hb.mono hW.size)))
  have MV := Lib.hid (fun w2 (hb : Below w.heap.size w w2) => hR.vpar tx hsz w2 (hW.trans (hb.mono hW.size)))
  obtain ⟨vk, vb, vt, vn, hv⟩ := hR.vform tx.data.toList
  have hfl : numV V (kd, tx, at_) = if kd = 3 then (if tx.data.toList.contains 46 then some (valF (V tx.data.toList).1) else match Lib.parseIntB 64 tx.data.toList with | .ok n => some (2, u64 n, ⟨#[]⟩) | _ => none) else none := rfl
  rw [hv] at MV hfl
  have hvf : valF (Value.agg #[.int .i64 vk, .int .u64 vb, .string vt]) = (vk, vb, vt) := rfl
  simp only [hvf] at hfl
  simp only at MV
  have h46 := has46 tx.data.toList
  have MC := Lib.hid (fun w2 => Tryz.strings_Contains_one tx 46 w2)
  rw [h46] at MC
  obtain ⟨dt, hdt⟩ : ∃ b, tx.data.toList.contains 46 = b := ⟨_, rfl⟩
  rw [hdt] at MC hfl
  have HP := Lib.hid hP
  have HT := Lib.hid ht
  have HNV := Lib.hid hfl
  obtain ⟨PP, hPP⟩ : ∃ PP, NumOut V P n o w ts = PP := ⟨_, rfl⟩
  rw [hPP]
  have HPP := Lib.hid hPP
  have hpl := hP.lt
  have HPB := Lib.hid hpl
  have hb0 : Below w.heap.size w (w.alloc (.cells #[.int .i64 0, .int .u64 0, .string ⟨#[]⟩] 28 (0, 0))) := (Below.refl _ _).alloc (Nat.le_refl _) _
  have hn0 := newest w (.cells #[.int .i64 0, .int .u64 0, .string ⟨#[]⟩] 28 (0, 0))
  obtain ⟨w0, hw0⟩ : ∃ w0, w.alloc (.cells #[.int .i64 0, .int .u64 0, .string ⟨#[]⟩] 28 (0, 0)) = w0 := ⟨_, rfl⟩
  rw [hw0] at hb0 hn0
  have HB0 := Lib.hid hb0
  have HN0 := Lib.hid hn0
  have hbd := build28
  clear hR hW hP hsz ht hPP hfl hv hvf h46 hdt hb0 hn0 hpl
  go_enter Tryz.func79, Tryz.ntmps79
  go_wp2_with fail
  clear hw0
  refine (M71.out _ HB0.out).mono ?_
  rintro e w1 ⟨rfl, hb1⟩
  have hkB := (((Below.refl w1.heap.size w1).alloc (Nat.le_refl _) (.cells #[.int .i64 kd, .string tx, .int .i64 at_] 96 (0, 0))).block w.heap.size (Nat.lt_of_lt_of_le (lt_of_block HN0.out) hb1.size)).trans ((hb1.block _ (lt_of_block HN0.out)).trans HN0.out)
  have hnew := newest w1 (.cells #[.int .i64 kd, .string tx, .int .i64 at_] 96 (0, 0))
  have hb2 : Below w.heap.size w (w1.alloc (.cells #[.int .i64 kd, .string tx, .int .i64 at_] 96 (0, 0))) := (HB0.out.trans (hb1.mono HB0.out.size)).alloc (Nat.le_trans HB0.out.size hb1.size) _
  have hBT : w.heap.size < w1.heap.size := Nat.lt_of_lt_of_le (lt_of_block HN0.out) hb1.size
  obtain ⟨w2, hw2⟩ : ∃ w2, w1.alloc (.cells #[.int .i64 kd, .string tx, .int .i64 at_] 96 (0, 0)) = w2 := ⟨_, rfl⟩
  rw [hw2] at hkB hnew hb2
  obtain ⟨T, hT⟩ : ∃ T, w1.heap.size = T := ⟨_, rfl⟩
  rw [hT] at hnew hBT
  have HKB := Lib.hid hkB
  have HNEW := Lib.hid hnew
  have HB2 := Lib.hid hb2
  have t0 : w2.cell? ⟨T, 0, none⟩ = some (.int .i64 kd) := Lib.cell_of_heap hnew 0
  have t1 : w2.cell? ⟨T, 1, none⟩ = some (.string tx) := Lib.cell_of_heap hnew 1
  have e0 : w2.cell? ⟨w.heap.size, 0, none⟩ = some (.int .i64 0) := Lib.cell_of_heap hkB 0
  have e1 : w2.cell? ⟨w.heap.size, 1, none⟩ = some (.int .u64 0) := Lib.cell_of_heap hkB 1
  have e2 : w2.cell? ⟨w.heap.size, 2, none⟩ = some (.string ⟨#[]⟩) := Lib.cell_of_heap hkB 2
  have g0 : w2.frozen? ⟨w.heap.size, 0, none⟩ = false := Lib.frozen_of_heap hkB 0
  have g1 : w2.frozen? ⟨w.heap.size, 1, none⟩ = false := Lib.frozen_of_heap hkB 1
  have g2 : w2.frozen? ⟨w.heap.size, 2, none⟩ = false := Lib.frozen_of_heap hkB 2
  have HBT := Lib.hid hBT
  clear hb1 hkB hnew hb2 hBT
  by_cases h3 : kd = 3
  · subst h3
    have HN3 := HNV.out
    simp only [if_true] at HN3
    have HN3 := Lib.hid HN3
    go_wp2_with fail
    clear hw2 hT
    refine (MC.out _).mono ?_
    rintro e w3 ⟨rfl, rfl⟩
    cases dt with
    | true =>
      have HN : Hid (numV V (3, tx, at_) = some (vk, vb, vt)) := Lib.hid (by rw [HN3.out]; rfl)
      go_wp2_with fail
      refine (MV.out _ HB2.out).mono ?_
      rintro e w4 ⟨rfl, hb4⟩
      have HB4 := Lib.hid (HB2.out.trans (hb4.mono HB2.out.size))
      have hk4 := (hb4.block _ (lt_of_block HKB.out)).trans HKB.out
      have HK4 := Lib.hid hk4
      have q0 : w4.cell? ⟨w.heap.size, 0, none⟩ = some (.int .i64 0) := Lib.cell_of_heap hk4 0
      have q1 : w4.cell? ⟨w.heap.size, 1, none⟩ = some (.int .u64 0) := Lib.cell_of_heap hk4 1
      have q2 : w4.cell? ⟨w.heap.size, 2, none⟩ = some (.string ⟨#[]⟩) := Lib.cell_of_heap hk4 2
      have r0 : w4.frozen? ⟨w.heap.size, 0, none⟩ = false := Lib.frozen_of_heap hk4 0
      have r1 : w4.frozen? ⟨w.heap.size, 1, none⟩ = false := Lib.frozen_of_heap hk4 1
      have r2 : w4.frozen? ⟨w.heap.size, 2, none⟩ = false := Lib.frozen_of_heap hk4 2
      clear hb4 hk4
      go_wp2_with fail
      obtain ⟨r, hr, hn⟩ := num_some HT.out HN.out
      have HNN := Lib.hid hn
      have HP9 := Lib.hid (show PAt (put3 w4 w.heap.size (.int .i64 vk) (.int .u64 vb) (.string vt)) P (_ :: r) n o from put3_pat (hr ▸ HP.out.later HB4.out) HPB.out _ _ _)
      clear hr hn
      refine (pop_72 P n o _ r _ HP9.out).mono ?_
      rintro e w9 ⟨rfl, hk9, hp9⟩
      have hq := put3_heap HK4.out (.int .i64 vk) (.int .u64 vb) (.string vt)
      have hk := (hk9.block w.heap.size (lt_of_block hq) (by intro q; have := HPB.out; omega)).trans hq
      have d0 : w9.cell? ⟨w.heap.size, 0, none⟩ = some (.int .i64 vk) := Lib.cell_of_heap hk 0
      have d1 : w9.cell? ⟨w.heap.size, 1, none⟩ = some (.int .u64 vb) := Lib.cell_of_heap hk 1
      have d2 : w9.cell? ⟨w.heap.size, 2, none⟩ = some (.string vt) := Lib.cell_of_heap hk 2
      have j0 : w9.frozen? ⟨w.heap.size, 0, none⟩ = false := Lib.frozen_of_heap hk 0
      have j1 : w9.frozen? ⟨w.heap.size, 1, none⟩ = false := Lib.frozen_of_heap hk 1
      have j2 : w9.frozen? ⟨w.heap.size, 2, none⟩ = false := Lib.frozen_of_heap hk 2
      have HK := Lib.hid hk
      have HK9 := Lib.hid ((put3_kp (Kp.of HB4.out) (Nat.le_refl _) (.int .i64 vk) (.int .u64 vb) (.string vt)).then hk9)
      have HQ9 := Lib.hid hp9
      clear hq hk hk9 hp9
      go_wp2_with fail
      refine bodyPost_ret (results53 (F := Tryz.f79) rfl rfl HK.out) rfl ?_
      rw [← HPP.out]
      unfold NumOut
      rw [HNN.out]
      exact ⟨put3_kp HK9.out (Nat.le_refl _) _ _ _, rfl, put3_pat HQ9.out HPB.out _ _ _⟩
    | false =>
      go_wp2_with fail
      refine (MI.out _ HB2.out).mono ?_
      rintro e w4 ⟨hb4, hr4⟩
      have HB4 := Lib.hid (HB2.out.trans (hb4.mono HB2.out.size))
      have hk4 := (hb4.block _ (lt_of_block HKB.out)).trans HKB.out
      have HK4 := Lib.hid hk4
      have q0 : w4.cell? ⟨w.heap.size, 0, none⟩ = some (.int .i64 0) := Lib.cell_of_heap hk4 0
      have q1 : w4.cell? ⟨w.heap.size, 1, none⟩ = some (.int .u64 0) := Lib.cell_of_heap hk4 1
      have q2 : w4.cell? ⟨w.heap.size, 2, none⟩ = some (.string ⟨#[]⟩) := Lib.cell_of_heap hk4 2
      have r0 : w4.frozen? ⟨w.heap.size, 0, none⟩ = false := Lib.frozen_of_heap hk4 0
      have r1 : w4.frozen? ⟨w.heap.size, 1, none⟩ = false := Lib.frozen_of_heap hk4 1
      have r2 : w4.frozen? ⟨w.heap.size, 2, none⟩ = false := Lib.frozen_of_heap hk4 2
      clear hb4 hk4
      rcases hr4 with ⟨m, hm, rfl⟩ | ⟨hm, m, N, rfl⟩
      · have HN : Hid (numV V (3, tx, at_) = some (2, u64 m, ⟨#[]⟩)) := Lib.hid (by rw [HN3.out]; simp [hm])
        clear hm
        go_wp2_with fail
        obtain ⟨r, hr, hn⟩ := num_some HT.out HN.out
        have HNN := Lib.hid hn
        have HP9 := Lib.hid (show PAt (put3 w4 w.heap.size (.int .i64 2) (.int .u64 (u64 m)) (.string ⟨#[]⟩)) P (_ :: r) n o from put3_pat (hr ▸ HP.out.later HB4.out) HPB.out _ _ _)
        clear hr hn
        refine (pop_72 P n o _ r _ HP9.out).mono ?_
        rintro e w9 ⟨rfl, hk9, hp9⟩
        have hq := put3_heap HK4.out (.int .i64 2) (.int .u64 (u64 m)) (.string ⟨#[]⟩)
        have hk := (hk9.block w.heap.size (lt_of_block hq) (by intro q; have := HPB.out; omega)).trans hq
        have d0 : w9.cell? ⟨w.heap.size, 0, none⟩ = some (.int .i64 2) := Lib.cell_of_heap hk 0
        have d1 : w9.cell? ⟨w.heap.size, 1, none⟩ = some (.int .u64 (u64 m)) := Lib.cell_of_heap hk 1
        have d2 : w9.cell? ⟨w.heap.size, 2, none⟩ = some (.string ⟨#[]⟩) := Lib.cell_of_heap hk 2
        have j0 : w9.frozen? ⟨w.heap.size, 0, none⟩ = false := Lib.frozen_of_heap hk 0
        have j1 : w9.frozen? ⟨w.heap.size, 1, none⟩ = false := Lib.frozen_of_heap hk 1
        have j2 : w9.frozen? ⟨w.heap.size, 2, none⟩ = false := Lib.frozen_of_heap hk 2
        have HK := Lib.hid hk
        have HK9 := Lib.hid ((put3_kp (Kp.of HB4.out) (Nat.le_refl _) (.int .i64 2) (.int .u64 (u64 m)) (.string ⟨#[]⟩)).then hk9)
        have HQ9 := Lib.hid hp9
        clear hq hk hk9 hp9
        go_wp2_with fail
        refine bodyPost_ret (results53 (F := Tryz.f79) rfl rfl HK.out) rfl ?_
        rw [← HPP.out]
        unfold NumOut
        rw [HNN.out]
        exact ⟨put3_kp HK9.out (Nat.le_refl _) _ _ _, rfl, put3_pat HQ9.out HPB.out _ _ _⟩
      · have HN : Hid (numV V (3, tx, at_) = none) := Lib.hid (by
          rw [HN3.out, if_neg (by decide)]
          split
          · rename_i q hq; exact absurd hq (hm q)
          · rfl)
        clear hm
        go_wp2_with fail
        refine bodyPost_ret (results53 (F := Tryz.f79) rfl rfl HK4.out) rfl ?_
        rw [← HPP.out]
        unfold NumOut
        rw [num_none HT.out HN.out]
        exact ⟨put3_kp (Kp.of HB4.out) (Nat.le_refl _) _ _ _, rfl, put3_pat (HP.out.later HB4.out) HPB.out _ _ _⟩
  · have h3b : (kd != 3) = true := by simp [h3]
    have HN : Hid (numV V (kd, tx, at_) = none) := Lib.hid (by rw [HNV.out, if_neg h3])
    clear h3
    go_wp2_with fail
    refine bodyPost_ret (results53 (F := Tryz.f79) rfl rfl HKB.out) rfl ?_
    rw [← HPP.out]
    unfold NumOut
    rw [num_none HT.out HN.out]
    exact ⟨put3_kp (Kp.of HB2.out) (Nat.le_refl _) _ _ _, rfl, put3_pat (HP.out.later HB2.out) HPB.out _ _ _⟩
end Go.Proofs.YtigicmnngppipaaGreatDoor.Tp
/- A test is taken. Conditions: what ParseInt and the reader of values answer; what stands in brackets. -/
namespace Go.Proofs.YtigicmnngppipaaGreatDoor.Tp
open Go.RowKit Lx
set_option maxRecDepth 100000
/-- What a taken condition is. -/
def CdOut (P n o : Nat) (w : World) (R : Res Cd) (e : Ending) (w' : World) : Prop :=
  Kp (· = P) w w' ∧ match R with
  | .ok (c, ts) => ∃ cv, e = .returned cv ∧ CdIs w' (fun k => w.heap.size ≤ k) cv c ∧ PAt w' P ts n o
  | .error q => e = stuckE n q
theorem PAt.opened {w : World} {P n o : Nat} {ts : List Tok} (h : PAt w P ts n o) (o' : Nat) : PAt (w.setCell ⟨P, 2, none⟩ (.int .i64 (o' : Int))) P ts n o' ∧ Kp (· = P) w (w.setCell ⟨P, 2, none⟩ (.int .i64 (o' : Int))) := by
  have hk : Kp (· = P) w (w.setCell ⟨P, 2, none⟩ (.int .i64 (o' : Int))) := Kp.set (S := (· = P)) (p := ⟨P, 2, none⟩) (Kp.refl _ w) (.inl rfl) _
  obtain ⟨a, c, h1, h2, h3, h4⟩ := h.row
  refine ⟨⟨⟨a, c, ?_, ?_, h3, h4⟩, h.sz⟩, hk⟩
  · rw [heap_setCell_same _ _ _ _ _ _ h1]; rfl
  · intro i hi
    obtain ⟨b, off, e, hb, d0, d1, d2⟩ := h2 i hi
    have hne : b ≠ P := Nat.ne_of_lt (h3 _ e)
    have key : ∀ j, (w.setCell ⟨P, 2, none⟩ (.int .i64 (o' : Int))).cell? ⟨b, j, none⟩ = w.cell? ⟨b, j, none⟩ := fun j => World.cell?_setCell_other _ _ _ _ (by intro q; injection q with q; exact hne q.symm)
    exact ⟨b, off, e, by simpa using hb, (key _).trans d0, (key _).trans d1, (key _).trans d2⟩
theorem PAt.open_cell {w : World} {P n o : Nat} {ts : List Tok} (h : PAt w P ts n o) : w.cell? ⟨P, 2, none⟩ = some (.int .i64 (o : Int)) ∧ w.frozen? ⟨P, 2, none⟩ = false := by
  obtain ⟨a, c, h1, _⟩ := h.row
  exact ⟨Lib.cell_of_heap h1 2, Lib.frozen_of_heap h1 2⟩
def put3c (w : World) (B : Nat) (x y z : Value) : World := ((w.setCell ⟨B, 3, none⟩ x).setCell ⟨B, 4, none⟩ y).setCell ⟨B, 5, none⟩ z
theorem put3c_far {w : World} {B k : Nat} (hk : k ≠ B) (x y z : Value) : (put3c w B x y z).heap[k]? = w.heap[k]? := by
  unfold put3c
  rw [heap_setCell_other _ _ _ _ hk, heap_setCell_other _ _ _ _ hk, heap_setCell_other _ _ _ _ hk]
theorem put3c_kp {S : Nat → Prop} {a w : World} (h : Kp S a w) {B : Nat} (hB : a.heap.size ≤ B) (x y z : Value) : Kp S a (put3c w B x y z) :=
  ((h.set (p := ⟨B, 3, none⟩) (.inr hB) x).set (p := ⟨B, 4, none⟩) (.inr hB) y).set (p := ⟨B, 5, none⟩) (.inr hB) z
theorem put7_kp {S : Nat → Prop} {a w : World} (h : Kp S a w) {B : Nat} (hB : a.heap.size ≤ B) (x0 x1 x2 x3 x4 x5 x6 : Value) : Kp S a (put7 w B x0 x1 x2 x3 x4 x5 x6) :=
  ((((((h.set (p := ⟨B, 0, none⟩) (.inr hB) _).set (p := ⟨B, 1, none⟩) (.inr hB) _).set (p := ⟨B, 2, none⟩) (.inr hB) _).set (p := ⟨B, 3, none⟩) (.inr hB) _).set (p := ⟨B, 4, none⟩) (.inr hB) _).set (p := ⟨B, 5, none⟩) (.inr hB) _).set (p := ⟨B, 6, none⟩) (.inr hB) _
theorem put7_pat {w : World} {P n o B : Nat} {ts : List Tok} (h : PAt w P ts n o) (hB : P < B) (x0 x1 x2 x3 x4 x5 x6 : Value) : PAt (put7 w B x0 x1 x2 x3 x4 x5 x6) P ts n o :=
  ((((((h.set (p := ⟨B, 0, none⟩) hB x0).set (p := ⟨B, 1, none⟩) hB x1).set (p := ⟨B, 2, none⟩) hB x2).set (p := ⟨B, 3, none⟩) hB x3).set (p := ⟨B, 4, none⟩) hB x4).set (p := ⟨B, 5, none⟩) hB x5).set (p := ⟨B, 6, none⟩) hB x6
theorem put3c_pat {w : World} {P n o B : Nat} {ts : List Tok} (h : PAt w P ts n o) (hB : P < B) (x y z : Value) : PAt (put3c w B x y z) P ts n o :=
  ((h.set (p := ⟨B, 3, none⟩) hB x).set (p := ⟨B, 4, none⟩) hB y).set (p := ⟨B, 5, none⟩) hB z
/-- A leaf handed back. -/
theorem leaf_out {P n o R C : Nat} {w wz : World} {ts : List Tok} {RR : Res Cd} {op k b : Int} {nm sg t : ByteArray} {a3 a4 a5 : Value} (hRR : RR = .ok (.mk op nm sg (k, b, t) [], ts)) (hk : Kp (· = P) w wz) (hp : PAt wz P ts n o) (hPw : P < w.heap.size) (hR : w.heap.size ≤ R) (hC : w.heap.size ≤ C) :
    CdOut P n o w RR (.returned (.agg #[.int .i64 op, .string nm, .string sg, .int .i64 k, .int .u64 b, .string t, .slice none 0 0])) (put7 (put3c wz C a3 a4 a5) R (.int .i64 op) (.string nm) (.string sg) (.int .i64 k) (.int .u64 b) (.string t) (.slice none 0 0)) := by
  subst hRR
  exact ⟨put7_kp (put3c_kp hk hC _ _ _) hR _ _ _ _ _ _ _, _, rfl, ⟨_, rfl, .nil⟩, put7_pat (put3c_pat hp (by omega) _ _ _) (by omega) _ _ _ _ _ _ _⟩
theorem has_one (u : ByteArray) (ts : List Tok) : hasP u [] ts = .ok (false, ts) ∧ tokIs u (hdT ts) = false ∨ ∃ t r, ts = t :: r ∧ hasP u [] ts = .ok (true, r) ∧ tokIs u t = true := by
  cases ts with
  | nil => exact .inl ⟨rfl, tokIs_nil u⟩
  | cons t r =>
    cases h : tokIs u t with
    | false => exact .inl ⟨by rw [hasP_cons, h]; rfl, h⟩
    | true => exact .inr ⟨t, r, rfl, by rw [hasP_cons, h]; rfl, h⟩
theorem testP_eq (V : List UInt8 → Value × Int) (rc : Option (List Tok → Res Cd)) (ts : List Tok) : testP V rc ts = if isOpen (hdT ts) then brackP rc ts ts.tail else if tokIs wTIME (hdT ts) then timeP ts.tail else leafP V ts := by
  cases ts with
  | nil => rfl
  | cons t r => rfl
def closeP (R : Res Cd) : Res Cd := match R with
  | .error q => .error q
  | .ok (c, q) => match takeAll [wClose] q with
    | .error q => .error q
    | .ok q => .ok (c, q)
theorem brack_some (f : List Tok → Res Cd) (ts r : List Tok) : brackP (some f) ts r = closeP (f r) := rfl
theorem close_cases (c : Cd) (q : List Tok) : (∃ q', mustR [wClose] q = .ok ((), q') ∧ closeP (.ok (c, q)) = .ok (c, q')) ∨ ∃ q', mustR [wClose] q = .error q' ∧ closeP (.ok (c, q)) = .error q' := by
  cases h : takeAll [wClose] q with
  | ok q' => exact .inl ⟨q', by simp only [mustR, h], by simp only [closeP, h]⟩
  | error q' => exact .inr ⟨q', by simp only [mustR, h], by simp only [closeP, h]⟩
theorem rightP_eq (V : List UInt8 → Value × Int) (n s : ByteArray) (ts : List Tok) : rightP V n s ts = if (hdT ts).1 = 4 then .ok (.mk 3 n s (4, 0, (hdT ts).2.1) [], ts.tail) else if tokIs wTRUE (hdT ts) then .ok (.mk 3 n s (3, 1, ⟨#[]⟩) [], ts.tail) else if tokIs wFALSE (hdT ts) then .ok (.mk 3 n s (3, 0, ⟨#[]⟩) [], ts.tail)
    else match numP V ts with | some (v, r) => .ok (.mk 3 n s v [], r) | none => .error ts := by
  cases ts with
  | nil => rfl
  | cons t r =>
    have h : numP V (t :: r) = (numV V t).map fun v => (v, r) := rfl
    rw [h]
    cases hv : numV V t <;> simp only [rightP, hdT, List.headD_cons, List.tail_cons, hv] <;> rfl
theorem timeP_err {ts q : List Tok} (h : signP ts = .error q) : timeP ts = .error q := by unfold timeP; rw [h]
theorem timeP_err2 {ts r q : List Tok} {s : ByteArray} (h : signP ts = .ok (s, r)) (h2 : intP (-9223372036854775808) 9223372036854775807 r = .error q) : timeP ts = .error q := by unfold timeP; rw [h]; show (match intP _ _ r with | .error q => _ | .ok (n, r) => _) = _; rw [h2]
theorem timeP_ok {ts r q : List Tok} {s : ByteArray} {m : Int} (h : signP ts = .ok (s, r)) (h2 : intP (-9223372036854775808) 9223372036854775807 r = .ok (m, q)) : timeP ts = .ok (.mk 4 ⟨#[]⟩ s (2, u64 m, ⟨#[]⟩) [], q) := by unfold timeP; rw [h]; show (match intP _ _ r with | .error q => _ | .ok (n, r) => _) = _; rw [h2]
theorem leafP_err {V : List UInt8 → Value × Int} {ts q : List Tok} (h : nameP ts = .error q) : leafP V ts = .error q := by unfold leafP; rw [h]
theorem leafP_err2 {V : List UInt8 → Value × Int} {ts r q : List Tok} {s : ByteArray} (h : nameP ts = .ok (s, r)) (h2 : signP r = .error q) : leafP V ts = .error q := by unfold leafP; rw [h]; show (match signP r with | .error q => _ | .ok (n, r) => _) = _; rw [h2]
theorem leafP_ok {V : List UInt8 → Value × Int} {ts r q : List Tok} {s g : ByteArray} (h : nameP ts = .ok (s, r)) (h2 : signP r = .ok (g, q)) : leafP V ts = rightP V s g q := by unfold leafP; rw [h]; show (match signP r with | .error q => _ | .ok (n, r) => _) = _; rw [h2]
theorem words1 : Words ⟨#[84, 73, 77, 69]⟩ [wTIME] ∧ Words ⟨#[84, 82, 85, 69]⟩ [wTRUE] ∧ Words ⟨#[70, 65, 76, 83, 69]⟩ [wFALSE] ∧ Words ⟨#[41]⟩ [wClose] ∧ Words ⟨#[65, 78, 68]⟩ [wAND] ∧ Words ⟨#[79, 82]⟩ [wOR] ∧ Words ⟨#[87, 72, 69, 82, 69]⟩ [wWHERE] := by
  refine ⟨?_, ?_, ?_, ?_, ?_, ?_, ?_⟩ <;> exact ⟨by decide, by decide, by decide, by decide⟩
end Go.Proofs.YtigicmnngppipaaGreatDoor.Tp
