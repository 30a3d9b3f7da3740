/- Several texts of this proof, laid together. Conditions: as each says. -/
import Derived.Test.YtigicmnngppipaaGreatDoorFAY
/- WHERE is taken. Conditions: what ParseInt and the reader of values answer. -/
namespace Go.Proofs.YtigicmnngppipaaGreatDoor.Tp
open Go.RowKit Lx
set_option maxRecDepth 100000
def WhOut (P n : Nat) (w : World) (R : Res (List Cd)) (e : Ending) (w' : World) : Prop :=
  Kp (· = P) w w' ∧ match R with
  | .ok (l, ts) => ∃ v, e = .returned v ∧ CdsIs w' (fun k => w.heap.size ≤ k) v l ∧ PAt w' P ts n 0
  | .error q => e = stuckE n q
theorem where_no {V : List UInt8 → Value × Int} {ts : List Tok} (h : hasP wWHERE [] ts = .ok (false, ts)) : whereP V ts = .ok ([], ts) := by unfold whereP; rw [h]
theorem where_err {V : List UInt8 → Value × Int} {ts r q : List Tok} (h : hasP wWHERE [] ts = .ok (true, r)) (h2 : orP V 16 r = .error q) : whereP V ts = .error q := by unfold whereP; rw [h]; simp only [h2]
theorem where_ok {V : List UInt8 → Value × Int} {ts r q : List Tok} {c : Cd} (h : hasP wWHERE [] ts = .ok (true, r)) (h2 : orP V 16 r = .ok (c, q)) : whereP V ts = .ok ([c], q) := by unfold whereP; rw [h]; simp only [h2]
set_option maxHeartbeats 4000000 in
theorem where_44 (P n : Nat) {V : List UInt8 → Value × Int} (W : World) (hR : Rd V W) (hWP : W.heap.size ≤ P) (ts : List Tok) (w : World) (hL : ts.length ≤ 70000) (hW : Below W.heap.size W w) (hP : PAt w P ts n 0) :
    Calls Tryz.prog 44 #[.pointer (some ⟨P, 0, none⟩)] w (WhOut P n w (whereP V ts)) := by
  have HM := Lib.hid (has_42 P n 0 ⟨#[87, 72, 69, 82, 69]⟩ wWHERE [] words1.2.2.2.2.2.2 ts W w hR.env hW hP)
  obtain ⟨PP, hPP⟩ : ∃ PP, WhOut P n w (whereP V ts) = PP := ⟨_, rfl⟩
  rw [hPP]
  have HPP := Lib.hid hPP
  have HPB := Lib.hid hP.lt
  have HL := Lib.hid hL
  have HO := Lib.hid (fun r w3 (hr : r.length ≤ 70000) (hk : Kp (· = P) w w3) hp => or_75 P n W hR hWP 16 0 rfl r w3 hr (hW.trans (hk.below hW.size (fun k e => by show W.heap.size ≤ k; rw [e]; exact hWP))) hp)
  clear hR hWP hW hP hPP hL
  go_enter Tryz.func44, Tryz.ntmps44
  go_wp2_with fail
  refine HM.out.mono ?_
  clear HM
  rintro e w3 ⟨hk3, hm3⟩
  have HK3 := Lib.hid hk3
  clear hk3
  rcases has_one wWHERE ts with ⟨e1, e2⟩ | ⟨t0, r, e0, e1, e2⟩
  · rw [e1] at hm3
    obtain ⟨rfl, hp3⟩ := hm3
    have HW := Lib.hid (where_no (V := V) e1)
    have HQ := Lib.hid hp3
    clear e1 e2 hp3
    go_wp2_with fail
    rw [← HPP.out, HW.out]
    exact ⟨HK3.out, _, rfl, .nil, HQ.out⟩
  · rw [e1] at hm3
    obtain ⟨rfl, hp3⟩ := hm3
    have HE1 := Lib.hid e1
    have hlr : r.length ≤ 70000 := by have := HL.out; rw [e0] at this; simp at this; omega
    have HM5 := Lib.hid (HO.out r w3 hlr HK3.out hp3)
    clear e0 e1 e2 hp3 hlr
    go_wp2_with fail
    refine HM5.out.mono ?_
    clear HM5
    rintro e w5 ⟨hk5, hm5⟩
    have HK5 := Lib.hid (HK3.out.then hk5)
    have HSZ := Lib.hid HK3.out.size
    clear hk5
    cases hor : orP V 16 r with
    | error q =>
      rw [hor] at hm5
      obtain rfl := hm5
      unfold stuckE
      simp (config := { zetaDelta := true }) only
      refine ⟨rfl, ?_⟩
      rw [← HPP.out, where_err HE1.out hor]
      exact ⟨HK5.out, rfl⟩
    | ok cr =>
      obtain ⟨c, q⟩ := cr
      rw [hor] at hm5
      obtain ⟨cv, rfl, ⟨sl, rfl, hsl⟩, hp5⟩ := hm5
      obtain ⟨sa, sc, rfl⟩ := cds_slice hsl
      have HWO := Lib.hid (where_ok HE1.out hor)
      have hrow := (CdRow.one (B := w.heap.size) (D := fun k => w.heap.size ≤ k) HK5.out.size hsl (fun k h _ => by have := HSZ.out; omega)).done (fun k => w.heap.size ≤ k) fun k h _ => h.elim id id
      obtain ⟨cop, cn, csg, ⟨ck, cb, ct⟩, cp⟩ := c
      unfold cdV
      simp only [Cd.op, Cd.name, Cd.sign, Cd.val, Cd.parts] at hsl hrow ⊢
      have HROW := Lib.hid hrow
      have HQ := Lib.hid (hp5.later ((Below.refl _ _).alloc (Nat.le_refl _) (.cells #[.int .i64 cop, .string cn, .string csg, .int .i64 ck, .int .u64 cb, .string ct, .slice sa cp.length sc] 51 (0, 0))))
      clear hsl hrow hp5 hor
      go_wp2_with fail
      rw [← HPP.out, HWO.out]
      exact ⟨HK5.out.alloc _, _, rfl, HROW.out, HQ.out⟩
end Go.Proofs.YtigicmnngppipaaGreatDoor.Tp
/- The statement in memory, and what is asked of dims. No condition. -/
namespace Go.Proofs.YtigicmnngppipaaGreatDoor.Tp
open Go.RowKit Lx
set_option maxRecDepth 100000
/-- A chosen statement's cells, as far as its dimensions. -/
def XA (a : Bool) (vi : Value) (into frm : ByteArray) (vw : Value) (win : Int) (vt : Value) : Array Value :=
  #[.int .i64 1, .bool a, vi, .string into, .string frm, vw, .int .i64 win, vt, .int .i64 0, .int .i64 0, .int .u64 0, .string ⟨#[]⟩, .bool false, .int .i64 0, .int .i64 0, .string ⟨#[]⟩, .slice none 0 0]
abbrev K2 (P X : Nat) : Nat → Prop := fun k => k = P ∨ k = X
theorem Kp.two {P X : Nat} {a b : World} (h : Kp (· = P) a b) : Kp (K2 P X) a b := ⟨h.os, h.tape, h.output, h.size, fun k hk hs => h.block k hk fun e => hs (.inl e)⟩
theorem PAt.keep2 {w w' : World} {P X n o : Nat} {ts : List Tok} (h : PAt w P ts n o) (hk : Kp (· = X) w w') (hX : P < X) : PAt w' P ts n o := h.keep hk fun k hk e => by omega
/-- What was left is put back. -/
theorem PAt.rest {w : World} {P n o : Nat} {q : List Tok} (h : PAt w P q n o) : ∃ a c, w.cell? ⟨P, 0, none⟩ = some (.slice a q.length c) ∧ ∀ w' r, Kp (· = P) w w' → PAt w' P r n o → PAt (w'.setCell ⟨P, 0, none⟩ (.slice a q.length c)) P q n o ∧ Kp (· = P) w' (w'.setCell ⟨P, 0, none⟩ (.slice a q.length c)) := by
  obtain ⟨a, c, h1, h2, h3, h4⟩ := h.row
  refine ⟨a, c, Lib.cell_of_heap h1 0, fun w' r hk hp => PAt.store hp ?_ h3 h4 h.sz⟩
  intro i hi
  obtain ⟨b, off, e, hb, d0, d1, d2⟩ := h2 i hi
  have hne : b ≠ P := Nat.ne_of_lt (h3 _ e)
  exact ⟨b, off, e, Nat.lt_of_lt_of_le hb hk.size, (hk.cell (p := ⟨b, _, none⟩) hb hne).trans d0, (hk.cell (p := ⟨b, _, none⟩) hb hne).trans d1, (hk.cell (p := ⟨b, _, none⟩) hb hne).trans d2⟩
theorem own_strs {w : World} {B cap : Nat} {a : Option Addr} {L : List ByteArray} (h : w.ownsRow B 9 1 (.slice a L.length cap) L.length (L.map Value.string)) : StrsAt w a L := by
  intro i hi
  rcases h.2 with ⟨h', h0⟩ | ⟨g, cap', cur, h', hb, hg, hr⟩
  · omega
  · simp only [Value.slice.injEq] at h'
    obtain ⟨rfl, _, rfl⟩ := h'
    refine ⟨g, 0, rfl, (Array.getElem?_eq_some_iff.1 hg).1, ?_⟩
    rw [h.cellAt (0 + i) (by omega), Nat.zero_add, List.getElem?_map, List.getElem?_eq_getElem hi]
    rfl
theorem strs_form {w : World} {B : Nat} {v : Value} {L : List ByteArray} (h : w.ownsRow B 9 1 v L.length (L.map Value.string)) : ∃ a cap, v = .slice a L.length cap := by
  rcases h.2 with ⟨rfl, h0⟩ | ⟨g, cap, cur, rfl, _⟩
  · exact ⟨none, 0, by rw [h0]⟩
  · exact ⟨_, _, rfl⟩
theorem words2 : Words ⟨#[84, 73, 77, 69, 32, 40]⟩ [wTIME, wOpen] ∧ Words ⟨#[44]⟩ [wComma] := by
  refine ⟨?_, ?_⟩ <;> exact ⟨by decide, by decide, by decide, by decide⟩
theorem info9s : ((Tryz.prog.info? 9).map fun i => (i.zero, i.size, i.bytes)) = some (some (.string ⟨#[]⟩), 1, 16) := by kernel_rfl
/-- In the loop of dimensions. -/
structure InD (P X n : Nat) (w : World) (x : S0) (a : Bool) (vi : Value) (into frm : ByteArray) (vw : Value) (ts : List Tok) (wr : World) (m : Nat) (y : S0) (q : List Tok) (vt : Value) : Prop where
  kp : Kp (K2 P X) w wr
  pat : PAt wr P q n 0
  xat : wr.heap[X]? = some (.cells (XA a vi into frm vw y.window vt) 31 (0, 0))
  own : wr.ownsRow w.heap.size 9 1 vt y.tags.length (y.tags.map Value.string)
  eq : dimsL 10 x ts = dimsL m y q
  yx : y = { x with window := y.window, tags := y.tags }
  fuel : m + y.tags.length + (if y.window = 0 then 0 else 1) = 10
  few : y.tags.length ≤ 8
theorem InD.pos {P X n m : Nat} {w wr : World} {x y : S0} {a : Bool} {vi vw vt : Value} {into frm : ByteArray} {ts q : List Tok} (h : InD P X n w x a vi into frm vw ts wr m y q vt) : ∃ m', m = m' + 1 := by
  have h1 := h.fuel
  have h2 := h.few
  refine ⟨m - 1, ?_⟩
  split at h1 <;> omega
def DimOut (P X n : Nat) (w : World) (a : Bool) (vi : Value) (into frm : ByteArray) (vw : Value) (x : S0) (R : Res S0) (e : Ending) (w' : World) : Prop :=
  Kp (K2 P X) w w' ∧ match R with
  | .ok (y, q) => e = .returned (.tuple #[]) ∧ PAt w' P q n 0 ∧ y = { x with window := y.window, tags := y.tags } ∧ ∃ vt, w'.heap[X]? = some (.cells (XA a vi into frm vw y.window vt) 31 (0, 0)) ∧ w'.ownsRow w.heap.size 9 1 vt y.tags.length (y.tags.map Value.string)
  | .error q => e = stuckE n q
theorem dims_err {m : Nat} {y : S0} {q q' : List Tok} (h : dimP y q = .error q') : dimsL (m + 1) y q = .error q' := by
  conv => lhs; unfold dimsL
  rw [h]
theorem dims_no {m : Nat} {y y' : S0} {q q' r : List Tok} (h : dimP y q = .ok (y', q')) (h2 : hasP wComma [] q' = .ok (false, r)) : dimsL (m + 1) y q = .ok (y', r) := by
  conv => lhs; unfold dimsL
  rw [h]; simp only [h2]
theorem dims_go {m : Nat} {y y' : S0} {q q' r : List Tok} (h : dimP y q = .ok (y', q')) (h2 : hasP wComma [] q' = .ok (true, r)) : dimsL (m + 1) y q = dimsL m y' r := by
  conv => lhs; unfold dimsL
  rw [h]; simp only [h2]
theorem dimP_time {y : S0} {q : List Tok} (hw : y.window = 0) : (∀ q', hasP wTIME [wOpen] q = .error q' → dimP y q = .error q') ∧ (∀ r q', hasP wTIME [wOpen] q = .ok (true, r) → intP 1 4611686018427387903 r = .error q' → dimP y q = .error q') ∧
    (∀ r k r2 q', hasP wTIME [wOpen] q = .ok (true, r) → intP 1 4611686018427387903 r = .ok (k, r2) → takeAll [wClose] r2 = .error q' → dimP y q = .error q') ∧
    (∀ r k r2 r3, hasP wTIME [wOpen] q = .ok (true, r) → intP 1 4611686018427387903 r = .ok (k, r2) → takeAll [wClose] r2 = .ok r3 → dimP y q = .ok ({ y with window := k }, r3)) := by
  refine ⟨fun q' h => ?_, fun r q' h h2 => ?_, fun r k r2 q' h h2 h3 => ?_, fun r k r2 r3 h h2 h3 => ?_⟩
  · simp only [dimP, if_pos hw, h]
  · simp only [dimP, if_pos hw, h, h2]
  · simp only [dimP, if_pos hw, h, h2, h3]
  · simp only [dimP, if_pos hw, h, h2, h3]
theorem dimP_name {y : S0} {q : List Tok} (hw : y.window = 0 → ∃ r, hasP wTIME [wOpen] q = .ok (false, r)) : (∀ q', nameP q = .error q' → dimP y q = .error q') ∧
    (∀ nm r, nameP q = .ok (nm, r) → (inL y.tags nm || decide (y.tags.length = 8)) = true → dimP y q = .error q) ∧
    (∀ nm r, nameP q = .ok (nm, r) → (inL y.tags nm || decide (y.tags.length = 8)) = false → dimP y q = .ok ({ y with tags := y.tags ++ [nm] }, r)) := by
  have key : (if y.window = 0 then hasP wTIME [wOpen] q else .ok (false, q)) = .ok (false, q) ∨ ∃ r, (if y.window = 0 then hasP wTIME [wOpen] q else .ok (false, q)) = .ok (false, r) := by
    by_cases h : y.window = 0
    · obtain ⟨r, hr⟩ := hw h
      exact .inr ⟨r, by rw [if_pos h, hr]⟩
    · exact .inl (by rw [if_neg h])
  obtain ⟨r0, hr0⟩ : ∃ r, (if y.window = 0 then hasP wTIME [wOpen] q else .ok (false, q)) = .ok (false, r) := by
    rcases key with h | h
    · exact ⟨q, h⟩
    · exact h
  refine ⟨fun q' h => ?_, fun nm r h h2 => ?_, fun nm r h h2 => ?_⟩
  · simp only [dimP, hr0, h]
  · simp only [dimP, hr0, h, h2, if_pos]
  · simp only [dimP, hr0, h, h2, Bool.false_eq_true, if_false]
theorem has_two (u v : ByteArray) (ts : List Tok) : (hasP u [v] ts = .ok (false, ts)) ∨ (∃ r, hasP u [v] ts = .ok (true, r) ∧ r.length < ts.length) ∨ ∃ q, hasP u [v] ts = .error q := by
  cases ts with
  | nil => exact .inl rfl
  | cons t r =>
    rw [hasP_cons]
    split
    · cases h : takeAll [v] r with
      | ok q => exact .inr (.inl ⟨q, rfl, by have := takeAll_len h; simp at this ⊢; omega⟩)
      | error q => exact .inr (.inr ⟨q, rfl⟩)
    · exact .inl rfl
/-- One more round. -/
theorem InD.next {P X n m : Nat} {w wr w9 : World} {x y y' : S0} {a : Bool} {vi vw vt vt' : Value} {into frm : ByteArray} {ts q q' r : List Tok} (h : InD P X n w x a vi into frm vw ts wr (m + 1) y q vt)
    (hd : dimP y q = .ok (y', q')) (hc : hasP wComma [] q' = .ok (true, r)) (hk : Kp (K2 P X) w w9) (hp : PAt w9 P r n 0) (hx : w9.heap[X]? = some (.cells (XA a vi into frm vw y'.window vt') 31 (0, 0))) (ho : w9.ownsRow w.heap.size 9 1 vt' y'.tags.length (y'.tags.map Value.string))
    (hy : y' = { x with window := y'.window, tags := y'.tags }) (hf : m + y'.tags.length + (if y'.window = 0 then 0 else 1) = 10) (h8 : y'.tags.length ≤ 8) : InD P X n w x a vi into frm vw ts w9 m y' r vt' :=
  ⟨hk, hp, hx, ho, h.eq.trans (dims_go hd hc), hy, hf, h8⟩
theorem InD.fin {P X n m : Nat} {w wr w9 : World} {x y y' : S0} {a : Bool} {vi vw vt vt' : Value} {into frm : ByteArray} {ts q q' r : List Tok} (h : InD P X n w x a vi into frm vw ts wr (m + 1) y q vt)
    (hd : dimP y q = .ok (y', q')) (hc : hasP wComma [] q' = .ok (false, r)) (hk : Kp (K2 P X) w w9) (hp : PAt w9 P r n 0) (hx : w9.heap[X]? = some (.cells (XA a vi into frm vw y'.window vt') 31 (0, 0))) (ho : w9.ownsRow w.heap.size 9 1 vt' y'.tags.length (y'.tags.map Value.string))
    (hy : y' = { x with window := y'.window, tags := y'.tags }) : DimOut P X n w a vi into frm vw x (dimsL 10 x ts) (.returned (.tuple #[])) w9 := by
  rw [h.eq, dims_no hd hc]
  exact ⟨hk, rfl, hp, hy, vt', hx, ho⟩
theorem InD.bad {P X n m : Nat} {w wr w9 : World} {x y : S0} {a : Bool} {vi vw vt : Value} {into frm : ByteArray} {ts q q' : List Tok} (h : InD P X n w x a vi into frm vw ts wr (m + 1) y q vt)
    (hd : dimP y q = .error q') (hk : Kp (K2 P X) w w9) : DimOut P X n w a vi into frm vw x (dimsL 10 x ts) (stuckE n q') w9 := by
  rw [h.eq, dims_err hd]
  exact ⟨hk, rfl⟩
end Go.Proofs.YtigicmnngppipaaGreatDoor.Tp
/- Dimensions are taken. Conditions: what ParseInt and the reader of values answer. -/
namespace Go.Proofs.YtigicmnngppipaaGreatDoor.Tp
open Go.RowKit Lx
set_option maxRecDepth 100000
theorem owns_kp {w w' : World} {P B e size n : Nat} {v : Value} {xs : List Value} (h : w.ownsRow B e size v n xs) (hk : Kp (· = P) w w') (hP : P < B) : w'.ownsRow B e size v n xs := by
  refine ⟨h.1, ?_⟩
  rcases h.2 with hn | ⟨g, cap, cur, rfl, hb, hg, r⟩
  · exact .inl hn
  · exact .inr ⟨g, cap, cur, rfl, hb, (hk.block g (Array.getElem?_eq_some_iff.1 hg).1 (by show ¬ g = P; omega)).trans hg, r⟩
theorem own_ne {w : World} {X B e size n : Nat} {v : Value} {xs : List Value} (h : w.ownsRow B e size v n xs) (hX : X < B) : some X ≠ v.ownBlock := fun e => by have := (h.lt X e.symm).1; omega
theorem pat_frozen {w : World} {P n o : Nat} {q : List Tok} (h : PAt w P q n o) : w.frozen? ⟨P, 0, none⟩ = false := by
  obtain ⟨a, c, h1, _⟩ := h.row
  exact Lib.frozen_of_heap h1 0
theorem pat_cell {w : World} {P n o : Nat} {q : List Tok} (h : PAt w P q n o) : ∃ v, w.cell? ⟨P, 0, none⟩ = some v := by
  obtain ⟨a, c, h1, _⟩ := h.row
  exact ⟨_, Lib.cell_of_heap h1 0⟩
theorem int_ge {a b k : Int} {ts q : List Tok} (h : intP a b ts = .ok (k, q)) : a ≤ k ∧ k ≤ b := by
  cases ts with
  | nil => cases h
  | cons t r =>
    rw [intP_cons] at h
    split at h
    · rename_i m hm
      injection h with h; injection h with h1 _
      subst h1
      unfold intOk at hm
      split at hm
      · split at hm
        · rename_i hc
          injection hm with hm
          subst hm
          exact ⟨hc.2.1, hc.2.2⟩
        · cases hm
      · cases hm
    · cases h
set_option maxHeartbeats 8000000 in
theorem dims_77 (P X n : Nat) (a : Bool) (vi : Value) (into frm : ByteArray) (vw : Value) (x : S0) (hxt : x.tags = []) (hxw : x.window = 0) {V : List UInt8 → Value × Int} (W : World) (hR : Rd V W) (hWP : W.heap.size ≤ P) (hPX : P < X) (ts : List Tok) (w : World) (hW : Below W.heap.size W w) (hP : PAt w P ts n 0)
    (hX : w.heap[X]? = some (.cells (XA a vi into frm vw 0 (.slice none 0 0)) 31 (0, 0))) :
    Calls Tryz.prog 77 #[.pointer (some ⟨P, 0, none⟩), .pointer (some ⟨X, 0, none⟩)] w (DimOut P X n w a vi into frm vw x (dimsL 10 x ts)) := by
  obtain ⟨i0, hi, hz0, hz1, hz2⟩ := info_parts info9s
  have HI := Lib.hid hi
  have HZ0 := Lib.hid hz0
  have HZ1 := Lib.hid hz1
  have HZ2 := Lib.hid hz2
  obtain ⟨PP, hPP⟩ : ∃ PP, DimOut P X n w a vi into frm vw x (dimsL 10 x ts) = PP := ⟨_, rfl⟩
  rw [hPP]
  have HPP := Lib.hid hPP
  have HR := Lib.hid hR
  have HW := Lib.hid hW
  have HWP := Lib.hid hWP
  have HPX := Lib.hid hPX
  have HPB := Lib.hid hP.lt
  have HXB := Lib.hid (lt_of_block hX)
  have HST : Hid (InD P X n w x a vi into frm vw ts w 10 x ts (.slice none 0 0)) := Lib.hid ⟨Kp.refl _ _, hP, by rw [hxw]; exact hX, by rw [hxt]; exact World.ownsRow_nil _ _ _ _, rfl, rfl, by rw [hxt, if_pos hxw]; rfl, by rw [hxt]; exact Nat.zero_le _⟩
  clear hi hz0 hz1 hz2 hPP hR hW hWP hPX hP hX hxt hxw
  go_enter Tryz.func77, Tryz.ntmps77
  go_wp2_with fail
  go_loopw [4] (fun _ wr => ∃ m y q vt, InD P X n w x a vi into frm vw ts wr m y q vt) (fun _ wr => lenAt P wr)
  case atStart => exact ⟨_, _, _, _, HST.out⟩
  case round =>
    obtain ⟨m, y, q, vt, hin⟩ := hrel
    obtain ⟨m, rfl⟩ := hin.pos
    obtain ⟨va, vc, rfl⟩ := strs_form hin.own
    have HIN := Lib.hid hin
    clear hin
    have HLA := Lib.hid (len_at HIN.out.pat)
    have x6 : wr.cell? ⟨X, 6, none⟩ = some (.int .i64 y.window) := Lib.cell_of_heap HIN.out.xat 6
    by_cases hw0 : y.window = 0
    · have hw0b : (y.window == 0) = true := by simp [hw0]
      have HDT := Lib.hid (dimP_time (y := y) (q := q) hw0)
      have HM := Lib.hid (has_42 P n 0 ⟨#[84, 73, 77, 69, 32, 40]⟩ wTIME [wOpen] words2.1 q W wr HR.out.env (HW.out.trans (HIN.out.kp.below HW.out.size (fun k e => by rcases e with e | e <;> (have := HWP.out; have := HPX.out; omega)))) HIN.out.pat)
      go_wp2_with fail
      refine HM.out.mono ?_
      clear HM
      rintro e w3 ⟨hk3, hm3⟩
      have HK3 := Lib.hid (HIN.out.kp.then hk3.two)
      have HX3 := Lib.hid ((hk3.block X (lt_of_block HIN.out.xat) (by show ¬ X = P; have := HPX.out; omega)).trans HIN.out.xat)
      have HO3 := Lib.hid (owns_kp HIN.out.own hk3 HPB.out)
      clear hk3
      rcases has_two wTIME wOpen q with e1 | ⟨r, e1, e2⟩ | ⟨q', e1⟩
      · rw [e1] at hm3
        obtain ⟨rfl, hp3⟩ := hm3
        have HQ3 := Lib.hid hp3
        have HE1 := Lib.hid e1
        clear e1 hp3
        obtain ⟨ra, rcp, rcell, hrest⟩ := (HQ3.out).rest
        have HRS := Lib.hid hrest
        have HDN := Lib.hid (dimP_name (y := y) (q := q) (fun _ => ⟨_, HE1.out⟩))
        have HMN := Lib.hid (name_43 P n 0 q W w3 HR.out.env (HW.out.trans (HK3.out.below HW.out.size (fun k e => by rcases e with e | e <;> (have := HWP.out; have := HPX.out; omega)))) HQ3.out)
        clear hrest
        go_wp2_with fail
        refine HMN.out.mono ?_
        clear HMN
        rintro e w5 ⟨hk5, hm5⟩
        have HK5 := Lib.hid (HK3.out.then hk5.two)
        have HKN := Lib.hid hk5
        have HX5 := Lib.hid ((hk5.block X (lt_of_block HX3.out) (by show ¬ X = P; have := HPX.out; omega)).trans HX3.out)
        have HO5 := Lib.hid (owns_kp HO3.out hk5 HPB.out)
        clear hk5
        cases hnm : nameP q with
        | error q' =>
          rw [hnm] at hm5
          obtain rfl := hm5
          unfold stuckE
          simp (config := { zetaDelta := true }) only [Exit.inBlock, Exit.then]
          refine ⟨rfl, ?_⟩
          rw [← HPP.out]
          exact HIN.out.bad (HDN.out.1 _ hnm) HK5.out
        | ok nr =>
          obtain ⟨nm, r⟩ := nr
          rw [hnm] at hm5
          obtain ⟨rfl, hp5⟩ := hm5
          have HNM := Lib.hid hnm
          have HP5 := Lib.hid hp5
          have x7 : w5.cell? ⟨X, 7, none⟩ = some (.slice va y.tags.length vc) := Lib.cell_of_heap HX5.out 7
          have y7 : w5.frozen? ⟨X, 7, none⟩ = false := Lib.frozen_of_heap HX5.out 7
          have HCN := Lib.hid (contains_112 va vc y.tags nm w5 (by have := HIN.out.few; omega) (own_strs HO5.out))
          have hrs := HRS.out w5 r HKN.out hp5
          have HRR := Lib.hid hrs
          have fz0 : w5.frozen? ⟨P, 0, none⟩ = false := pat_frozen hp5
          have cl0 : ∃ v, w5.cell? ⟨P, 0, none⟩ = some v := pat_cell hp5
          obtain ⟨cl0v, cl0⟩ := cl0
          clear hnm hp5 hrs
          go_wp2_with fail
          refine HCN.out.mono ?_
          clear HCN
          rintro e w6 ⟨rfl, rfl⟩
          cases hin : inL y.tags nm with
          | true =>
            have HBAD := Lib.hid (HDN.out.2.1 _ _ HNM.out (by rw [hin]; rfl))
            clear hin
            go_wp2_with fail
            refine (wrong_24 P n 0 q _ HRR.out.1).mono ?_
            rintro e w7 ⟨rfl, rfl⟩
            unfold stuckE
            simp (config := { zetaDelta := true }) only [Exit.inBlock, Exit.then]
            refine ⟨rfl, ?_⟩
            rw [← HPP.out]
            exact HIN.out.bad HBAD.out (HK5.out.then HRR.out.2.two)
          | false =>
            by_cases h8 : y.tags.length = 8
            · have h8b : ((y.tags.length : Int) == 8) = true := by simp; omega
              have HBAD := Lib.hid (HDN.out.2.1 _ _ HNM.out (by rw [hin, decide_eq_true h8]; rfl))
              clear hin h8
              go_wp2_with fail
              refine (wrong_24 P n 0 q _ HRR.out.1).mono ?_
              rintro e w7 ⟨rfl, rfl⟩
              unfold stuckE
              simp (config := { zetaDelta := true }) only [Exit.inBlock, Exit.then]
              refine ⟨rfl, ?_⟩
              rw [← HPP.out]
              exact HIN.out.bad HBAD.out (HK5.out.then HRR.out.2.two)
            · have h8b : ((y.tags.length : Int) == 8) = false := by simp; omega
              have HOK := Lib.hid (HDN.out.2.2 _ _ HNM.out (by rw [hin, decide_eq_false h8]; rfl))
              have hlt8 : y.tags.length < 8 := by have := HIN.out.few; omega
              have HLT8 := Lib.hid hlt8
              have hrow := fun ob => HO5.out.alloc ob
              have hm1 : y.tags.length + 1 ≤ maxLen := by unfold maxLen; omega
              have hm2 : (y.tags.length + 1) * 16 ≤ 140737488355328 := by omega
              have hsz5 : w.heap.size ≤ w5.heap.size := HK5.out.size
              clear hin h8 hlt8
              go_wp2_with ((at_builtin; go_must (refine wpList_append_lies _ rfl (.tmp 52) (.tmp 54) 25 rfl w.heap.size 9 i0 _ 1 16 Tryz.underlying25 HI.out HZ0.out HZ1.out HZ2.out rfl (by omega) _ y.tags.length _ rfl (hrow _) ⟨w5.heap.size, 0, none⟩ 1 1 [.string nm] rfl rfl (World.news_of_block (cs := #[.string nm]) (t := 9) (fr := (0, 0)) (heap_alloc_new _ _)) (by simp [Value.oneCell']) (Nat.zero_lt_one) hm1 hm2 (by simp; omega) (w5.heap.size + 1) (by simp) ?_); intro g3 cap3 w6 hown3 hgrow3 hat3 hlt3; have HOW3 := Lib.hid hown3; have hX6 := (hgrow3.block X (by have := lt_of_block HX5.out; simp; omega) (own_ne HO5.out HXB.out)).trans ((Below.heap_alloc w5 _ X (lt_of_block HX5.out)).trans HX5.out); have HX6 := Lib.hid hX6; have z7 : w6.cell? ⟨X, 7, none⟩ = some (.slice va y.tags.length vc) := Lib.cell_of_heap hX6 7; have u7 : w6.frozen? ⟨X, 7, none⟩ = false := Lib.frozen_of_heap hX6 7; have HGR3 := Lib.hid hgrow3; clear hown3 hgrow3 hat3 hlt3 hX6))
              have hkA : Kp (K2 P X) w (w5.alloc (.cells #[.string nm] 9 (0, 0))) := HK5.out.alloc _
              have HK6 := Lib.hid (hkA.grown HGR3.out (fun k e => .inr ((HO5.out.lt k e).1)))
              have hpA : PAt (w5.alloc (.cells #[.string nm] 9 (0, 0))) P r n 0 := HP5.out.later ((Below.refl _ _).alloc (Nat.le_refl _) _)
              have HQ6 := Lib.hid (hpA.keep (S := fun k => (Value.slice va y.tags.length vc).ownBlock = some k) ((Kp.refl _ _).grown HGR3.out (fun k e => .inl e)) (fun k hk e => by have := (HO5.out.lt k e).1; have := HPB.out; omega))
              have HK7 := Lib.hid (HK6.out.set (p := ⟨X, 7, none⟩) (.inl (.inr rfl)) (.slice (some ⟨g3, 0, none⟩) (y.tags.length + 1) cap3))
              have HQ7 := Lib.hid (HQ6.out.set (p := ⟨X, 7, none⟩) HPX.out (.slice (some ⟨g3, 0, none⟩) (y.tags.length + 1) cap3))
              have HX7 : Hid ((w6.setCell ⟨X, 7, none⟩ (.slice (some ⟨g3, 0, none⟩) (y.tags.length + 1) cap3)).heap[X]? = some (.cells (XA a vi into frm vw y.window (.slice (some ⟨g3, 0, none⟩) (y.tags.length + 1) cap3)) 31 (0, 0))) := Lib.hid (heap_setCell_same _ _ _ _ _ _ HX6.out)
              have hO7 := ownsRow_setCell_below HOW3.out (a := ⟨X, 7, none⟩) HXB.out (.slice (some ⟨g3, 0, none⟩) (y.tags.length + 1) cap3)
              have HO7 : Hid ((w6.setCell ⟨X, 7, none⟩ (.slice (some ⟨g3, 0, none⟩) (y.tags.length + 1) cap3)).ownsRow w.heap.size 9 1 (.slice (some ⟨g3, 0, none⟩) (y.tags.length + 1) cap3) (y.tags ++ [nm]).length ((y.tags ++ [nm]).map Value.string)) := Lib.hid (by rw [List.length_append, List.map_append]; exact hO7)
              have HQL : Hid (r.length ≤ q.length) := Lib.hid (by have := name_len HNM.out; omega)
              clear hkA hpA hO7 z7 u7 x7 y7 fz0 cl0 hrow
              have HM9 := Lib.hid (has_42 P n 0 ⟨#[44]⟩ wComma [] words2.2 r W _ HR.out.env (HW.out.trans (HK7.out.below HW.out.size (fun k e => by rcases e with e | e <;> (have := HWP.out; have := HPX.out; omega)))) HQ7.out)
              go_wp2_with fail
              refine HM9.out.mono ?_
              clear HM9
              rintro e w9 ⟨hk9, hm9⟩
              have HK9 := Lib.hid (HK7.out.then hk9.two)
              have HX9 := Lib.hid ((hk9.block X (lt_of_block HX7.out) (by show ¬ X = P; have := HPX.out; omega)).trans HX7.out)
              have HO9 := Lib.hid (owns_kp HO7.out hk9 HPB.out)
              clear hk9
              rcases has_one wComma r with ⟨e1, e2⟩ | ⟨t0, r9, e0, e1, e2⟩
              · rw [e1] at hm9
                obtain ⟨rfl, hp9⟩ := hm9
                have HF := Lib.hid (HIN.out.fin (y' := { y with tags := y.tags ++ [nm] }) HOK.out e1 HK9.out hp9 HX9.out HO9.out (by rw [HIN.out.yx]))
                clear e1 e2 hp9
                go_wp2_with fail
                go_end0
                rw [← HPP.out]
                exact HF.out
              · rw [e1] at hm9
                obtain ⟨rfl, hp9⟩ := hm9
                have HF := Lib.hid (HIN.out.next (y' := { y with tags := y.tags ++ [nm] }) HOK.out e1 HK9.out hp9 HX9.out HO9.out (by rw [HIN.out.yx]) (by have := HIN.out.fuel; simp; omega) (by have := HLT8.out; simp; omega))
                have HLT : Hid (r9.length < q.length) := Lib.hid (by have := HQL.out; rw [e0] at this; simp at this; omega)
                clear e0 e1 e2 hp9
                go_wp2_with fail
                refine ⟨⟨_, _, _, _, HF.out⟩, ?_⟩
                rw [len_at HF.out.pat, HLA.out]
                exact HLT.out
      · rw [e1] at hm3
        obtain ⟨rfl, hp3⟩ := hm3
        have HE1 := Lib.hid e1
        have HRL := Lib.hid e2
        have HMI := Lib.hid (integer_80 1 4611686018427387903 P n 0 r W w3 HR.out (HW.out.trans (HK3.out.below HW.out.size (fun k e => by rcases e with e | e <;> (have := HWP.out; have := HPX.out; omega)))) hp3)
        clear e1 e2 hp3
        go_wp2_with fail
        refine HMI.out.mono ?_
        clear HMI
        rintro e w4 ⟨hk4, hm4⟩
        have HK4 := Lib.hid (HK3.out.then hk4.two)
        have HX4 := Lib.hid ((hk4.block X (lt_of_block HX3.out) (by show ¬ X = P; have := HPX.out; omega)).trans HX3.out)
        have HO4 := Lib.hid (owns_kp HO3.out hk4 HPB.out)
        clear hk4
        cases hin : intP 1 4611686018427387903 r with
        | error q' =>
          rw [hin] at hm4
          obtain rfl := hm4
          unfold stuckE
          simp (config := { zetaDelta := true }) only [Exit.inBlock, Exit.then]
          refine ⟨rfl, ?_⟩
          rw [← HPP.out]
          exact HIN.out.bad (HDT.out.2.1 _ _ HE1.out hin) HK4.out
        | ok ir =>
          obtain ⟨k, r2⟩ := ir
          rw [hin] at hm4
          obtain ⟨rfl, hp4⟩ := hm4
          have HIN2 := Lib.hid hin
          have x6' : w4.cell? ⟨X, 6, none⟩ = some (.int .i64 y.window) := Lib.cell_of_heap HX4.out 6
          have y6' : w4.frozen? ⟨X, 6, none⟩ = false := Lib.frozen_of_heap HX4.out 6
          have HK5 := Lib.hid (HK4.out.set (p := ⟨X, 6, none⟩) (.inl (.inr rfl)) (.int .i64 k))
          have HQ5 := Lib.hid (hp4.set (p := ⟨X, 6, none⟩) HPX.out (.int .i64 k))
          have HX5 : Hid ((w4.setCell ⟨X, 6, none⟩ (.int .i64 k)).heap[X]? = some (.cells (XA a vi into frm vw k (.slice va y.tags.length vc)) 31 (0, 0))) := Lib.hid (heap_setCell_same _ _ _ _ _ _ HX4.out)
          have HO5 := Lib.hid (ownsRow_setCell_below HO4.out (a := ⟨X, 6, none⟩) HXB.out (.int .i64 k))
          have HMC := Lib.hid (must_45 P n 0 ⟨#[41]⟩ wClose [] words1.2.2.2.1 r2 W _ HR.out.env (HW.out.trans (HK5.out.below HW.out.size (fun k e => by rcases e with e | e <;> (have := HWP.out; have := HPX.out; omega)))) HQ5.out)
          clear hin hp4 x6
          go_wp2_with fail
          refine HMC.out.mono ?_
          clear HMC
          rintro e w6 ⟨hk6, hm6⟩
          have HK6 := Lib.hid (HK5.out.then hk6.two)
          have HX6 := Lib.hid ((hk6.block X (lt_of_block HX5.out) (by show ¬ X = P; have := HPX.out; omega)).trans HX5.out)
          have HO6 := Lib.hid (owns_kp HO5.out hk6 HPB.out)
          clear hk6
          cases hta : takeAll [wClose] r2 with
          | error q' =>
            simp only [mustR, hta] at hm6
            obtain rfl := hm6
            unfold stuckE
            simp (config := { zetaDelta := true }) only [Exit.inBlock, Exit.then]
            refine ⟨rfl, ?_⟩
            rw [← HPP.out]
            exact HIN.out.bad (HDT.out.2.2.1 _ _ _ _ HE1.out HIN2.out hta) HK6.out
          | ok r3 =>
            simp only [mustR, hta] at hm6
            obtain ⟨rfl, hp6⟩ := hm6
            have HQ6 := Lib.hid hp6
            have HOK := Lib.hid (HDT.out.2.2.2 _ _ _ _ HE1.out HIN2.out hta)
            have HKG := Lib.hid (int_ge HIN2.out)
            have HQL : Hid (r3.length ≤ q.length) := Lib.hid (by have := int_len HIN2.out; have := takeAll_len hta; have := HRL.out; omega)
            have hwz : (if y.window = 0 then 0 else 1) = 0 := if_pos hw0
            have hwk : (if k = 0 then 0 else 1) = 1 := if_neg (by have := HKG.out.1; omega)
            have HWZ := Lib.hid hwz
            have HWK := Lib.hid hwk
            clear hta hp6 hwz hwk x6' y6'
            have HM9 := Lib.hid (has_42 P n 0 ⟨#[44]⟩ wComma [] words2.2 r3 W _ HR.out.env (HW.out.trans (HK6.out.below HW.out.size (fun k e => by rcases e with e | e <;> (have := HWP.out; have := HPX.out; omega)))) HQ6.out)
            go_wp2_with fail
            refine HM9.out.mono ?_
            clear HM9
            rintro e w9 ⟨hk9, hm9⟩
            have HK9 := Lib.hid (HK6.out.then hk9.two)
            have HX9 := Lib.hid ((hk9.block X (lt_of_block HX6.out) (by show ¬ X = P; have := HPX.out; omega)).trans HX6.out)
            have HO9 := Lib.hid (owns_kp HO6.out hk9 HPB.out)
            clear hk9
            rcases has_one wComma r3 with ⟨e1, e2⟩ | ⟨t0, r9, e0, e1, e2⟩
            · rw [e1] at hm9
              obtain ⟨rfl, hp9⟩ := hm9
              have HF := Lib.hid (HIN.out.fin (y' := { y with window := k }) HOK.out e1 HK9.out hp9 HX9.out HO9.out (by rw [HIN.out.yx]))
              clear e1 e2 hp9
              go_wp2_with fail
              go_end0
              rw [← HPP.out]
              exact HF.out
            · rw [e1] at hm9
              obtain ⟨rfl, hp9⟩ := hm9
              have HF := Lib.hid (HIN.out.next (y' := { y with window := k }) HOK.out e1 HK9.out hp9 HX9.out HO9.out (by rw [HIN.out.yx]) (by have := HIN.out.fuel; have h1 := HWZ.out; have h2 := HWK.out; rw [h1] at this; show m + y.tags.length + (if k = 0 then 0 else 1) = 10; rw [h2]; omega) HIN.out.few)
              have HLT : Hid (r9.length < q.length) := Lib.hid (by have := HQL.out; rw [e0] at this; simp at this; omega)
              clear e0 e1 e2 hp9
              go_wp2_with fail
              refine ⟨⟨_, _, _, _, HF.out⟩, ?_⟩
              rw [len_at HF.out.pat, HLA.out]
              exact HLT.out
      · rw [e1] at hm3
        obtain rfl := hm3
        unfold stuckE
        simp (config := { zetaDelta := true }) only [Exit.inBlock, Exit.then]
        refine ⟨rfl, ?_⟩
        rw [← HPP.out]
        exact HIN.out.bad (HDT.out.1 _ e1) HK3.out
    · have hw0b : (y.window == 0) = false := by simp [hw0]
      have HNW := Lib.hid hw0
      obtain ⟨ra, rcp, rcell, hrest⟩ := (HIN.out.pat).rest
      have HRS := Lib.hid hrest
      have HDN := Lib.hid (dimP_name (y := y) (q := q) (fun e => absurd e HNW.out))
      have HMN := Lib.hid (name_43 P n 0 q W wr HR.out.env (HW.out.trans (HIN.out.kp.below HW.out.size (fun k e => by rcases e with e | e <;> (have := HWP.out; have := HPX.out; omega)))) HIN.out.pat)
      clear hrest
      go_wp2_with fail
      refine HMN.out.mono ?_
      clear HMN
      rintro e w5 ⟨hk5, hm5⟩
      have HK5 := Lib.hid (HIN.out.kp.then hk5.two)
      have HKN := Lib.hid hk5
      have HX5 := Lib.hid ((hk5.block X (lt_of_block HIN.out.xat) (by show ¬ X = P; have := HPX.out; omega)).trans HIN.out.xat)
      have HO5 := Lib.hid (owns_kp HIN.out.own hk5 HPB.out)
      clear hk5
      cases hnm : nameP q with
      | error q' =>
        rw [hnm] at hm5
        obtain rfl := hm5
        unfold stuckE
        simp (config := { zetaDelta := true }) only [Exit.inBlock, Exit.then]
        refine ⟨rfl, ?_⟩
        rw [← HPP.out]
        exact HIN.out.bad (HDN.out.1 _ hnm) HK5.out
      | ok nr =>
        obtain ⟨nm, r⟩ := nr
        rw [hnm] at hm5
        obtain ⟨rfl, hp5⟩ := hm5
        have HNM := Lib.hid hnm
        have HP5 := Lib.hid hp5
        have x7 : w5.cell? ⟨X, 7, none⟩ = some (.slice va y.tags.length vc) := Lib.cell_of_heap HX5.out 7
        have y7 : w5.frozen? ⟨X, 7, none⟩ = false := Lib.frozen_of_heap HX5.out 7
        have HCN := Lib.hid (contains_112 va vc y.tags nm w5 (by have := HIN.out.few; omega) (own_strs HO5.out))
        have hrs := HRS.out w5 r HKN.out hp5
        have HRR := Lib.hid hrs
        have fz0 : w5.frozen? ⟨P, 0, none⟩ = false := pat_frozen hp5
        have cl0 : ∃ v, w5.cell? ⟨P, 0, none⟩ = some v := pat_cell hp5
        obtain ⟨cl0v, cl0⟩ := cl0
        clear hnm hp5 hrs
        go_wp2_with fail
        refine HCN.out.mono ?_
        clear HCN
        rintro e w6 ⟨rfl, rfl⟩
        cases hin : inL y.tags nm with
        | true =>
          have HBAD := Lib.hid (HDN.out.2.1 _ _ HNM.out (by rw [hin]; rfl))
          clear hin
          go_wp2_with fail
          refine (wrong_24 P n 0 q _ HRR.out.1).mono ?_
          rintro e w7 ⟨rfl, rfl⟩
          unfold stuckE
          simp (config := { zetaDelta := true }) only [Exit.inBlock, Exit.then]
          refine ⟨rfl, ?_⟩
          rw [← HPP.out]
          exact HIN.out.bad HBAD.out (HK5.out.then HRR.out.2.two)
        | false =>
          by_cases h8 : y.tags.length = 8
          · have h8b : ((y.tags.length : Int) == 8) = true := by simp; omega
            have HBAD := Lib.hid (HDN.out.2.1 _ _ HNM.out (by rw [hin, decide_eq_true h8]; rfl))
            clear hin h8
            go_wp2_with fail
            refine (wrong_24 P n 0 q _ HRR.out.1).mono ?_
            rintro e w7 ⟨rfl, rfl⟩
            unfold stuckE
            simp (config := { zetaDelta := true }) only [Exit.inBlock, Exit.then]
            refine ⟨rfl, ?_⟩
            rw [← HPP.out]
            exact HIN.out.bad HBAD.out (HK5.out.then HRR.out.2.two)
          · have h8b : ((y.tags.length : Int) == 8) = false := by simp; omega
            have HOK := Lib.hid (HDN.out.2.2 _ _ HNM.out (by rw [hin, decide_eq_false h8]; rfl))
            have hlt8 : y.tags.length < 8 := by have := HIN.out.few; omega
            have HLT8 := Lib.hid hlt8
            have hrow := fun ob => HO5.out.alloc ob
            have hm1 : y.tags.length + 1 ≤ maxLen := by unfold maxLen; omega
            have hm2 : (y.tags.length + 1) * 16 ≤ 140737488355328 := by omega
            have hsz5 : w.heap.size ≤ w5.heap.size := HK5.out.size
            clear hin h8 hlt8
            go_wp2_with ((at_builtin; go_must (refine wpList_append_lies _ rfl (.tmp 52) (.tmp 54) 25 rfl w.heap.size 9 i0 _ 1 16 Tryz.underlying25 HI.out HZ0.out HZ1.out HZ2.out rfl (by omega) _ y.tags.length _ rfl (hrow _) ⟨w5.heap.size, 0, none⟩ 1 1 [.string nm] rfl rfl (World.news_of_block (cs := #[.string nm]) (t := 9) (fr := (0, 0)) (heap_alloc_new _ _)) (by simp [Value.oneCell']) (Nat.zero_lt_one) hm1 hm2 (by simp; omega) (w5.heap.size + 1) (by simp) ?_); intro g3 cap3 w6 hown3 hgrow3 hat3 hlt3; have HOW3 := Lib.hid hown3; have hX6 := (hgrow3.block X (by have := lt_of_block HX5.out; simp; omega) (own_ne HO5.out HXB.out)).trans ((Below.heap_alloc w5 _ X (lt_of_block HX5.out)).trans HX5.out); have HX6 := Lib.hid hX6; have z7 : w6.cell? ⟨X, 7, none⟩ = some (.slice va y.tags.length vc) := Lib.cell_of_heap hX6 7; have u7 : w6.frozen? ⟨X, 7, none⟩ = false := Lib.frozen_of_heap hX6 7; have HGR3 := Lib.hid hgrow3; clear hown3 hgrow3 hat3 hlt3 hX6))
            have hkA : Kp (K2 P X) w (w5.alloc (.cells #[.string nm] 9 (0, 0))) := HK5.out.alloc _
            have HK6 := Lib.hid (hkA.grown HGR3.out (fun k e => .inr ((HO5.out.lt k e).1)))
            have hpA : PAt (w5.alloc (.cells #[.string nm] 9 (0, 0))) P r n 0 := HP5.out.later ((Below.refl _ _).alloc (Nat.le_refl _) _)
            have HQ6 := Lib.hid (hpA.keep (S := fun k => (Value.slice va y.tags.length vc).ownBlock = some k) ((Kp.refl _ _).grown HGR3.out (fun k e => .inl e)) (fun k hk e => by have := (HO5.out.lt k e).1; have := HPB.out; omega))
            have HK7 := Lib.hid (HK6.out.set (p := ⟨X, 7, none⟩) (.inl (.inr rfl)) (.slice (some ⟨g3, 0, none⟩) (y.tags.length + 1) cap3))
            have HQ7 := Lib.hid (HQ6.out.set (p := ⟨X, 7, none⟩) HPX.out (.slice (some ⟨g3, 0, none⟩) (y.tags.length + 1) cap3))
            have HX7 : Hid ((w6.setCell ⟨X, 7, none⟩ (.slice (some ⟨g3, 0, none⟩) (y.tags.length + 1) cap3)).heap[X]? = some (.cells (XA a vi into frm vw y.window (.slice (some ⟨g3, 0, none⟩) (y.tags.length + 1) cap3)) 31 (0, 0))) := Lib.hid (heap_setCell_same _ _ _ _ _ _ HX6.out)
            have hO7 := ownsRow_setCell_below HOW3.out (a := ⟨X, 7, none⟩) HXB.out (.slice (some ⟨g3, 0, none⟩) (y.tags.length + 1) cap3)
            have HO7 : Hid ((w6.setCell ⟨X, 7, none⟩ (.slice (some ⟨g3, 0, none⟩) (y.tags.length + 1) cap3)).ownsRow w.heap.size 9 1 (.slice (some ⟨g3, 0, none⟩) (y.tags.length + 1) cap3) (y.tags ++ [nm]).length ((y.tags ++ [nm]).map Value.string)) := Lib.hid (by rw [List.length_append, List.map_append]; exact hO7)
            have HQL : Hid (r.length ≤ q.length) := Lib.hid (by have := name_len HNM.out; omega)
            clear hkA hpA hO7 z7 u7 x7 y7 fz0 cl0 hrow
            have HM9 := Lib.hid (has_42 P n 0 ⟨#[44]⟩ wComma [] words2.2 r W _ HR.out.env (HW.out.trans (HK7.out.below HW.out.size (fun k e => by rcases e with e | e <;> (have := HWP.out; have := HPX.out; omega)))) HQ7.out)
            go_wp2_with fail
            refine HM9.out.mono ?_
            clear HM9
            rintro e w9 ⟨hk9, hm9⟩
            have HK9 := Lib.hid (HK7.out.then hk9.two)
            have HX9 := Lib.hid ((hk9.block X (lt_of_block HX7.out) (by show ¬ X = P; have := HPX.out; omega)).trans HX7.out)
            have HO9 := Lib.hid (owns_kp HO7.out hk9 HPB.out)
            clear hk9
            rcases has_one wComma r with ⟨e1, e2⟩ | ⟨t0, r9, e0, e1, e2⟩
            · rw [e1] at hm9
              obtain ⟨rfl, hp9⟩ := hm9
              have HF := Lib.hid (HIN.out.fin (y' := { y with tags := y.tags ++ [nm] }) HOK.out e1 HK9.out hp9 HX9.out HO9.out (by rw [HIN.out.yx]))
              clear e1 e2 hp9
              go_wp2_with fail
              go_end0
              rw [← HPP.out]
              exact HF.out
            · rw [e1] at hm9
              obtain ⟨rfl, hp9⟩ := hm9
              have HF := Lib.hid (HIN.out.next (y' := { y with tags := y.tags ++ [nm] }) HOK.out e1 HK9.out hp9 HX9.out HO9.out (by rw [HIN.out.yx]) (by have := HIN.out.fuel; simp; omega) (by have := HLT8.out; simp; omega))
              have HLT : Hid (r9.length < q.length) := Lib.hid (by have := HQL.out; rw [e0] at this; simp at this; omega)
              clear e0 e1 e2 hp9
              go_wp2_with fail
              refine ⟨⟨_, _, _, _, HF.out⟩, ?_⟩
              rw [len_at HF.out.pat, HLA.out]
              exact HLT.out
end Go.Proofs.YtigicmnngppipaaGreatDoor.Tp
