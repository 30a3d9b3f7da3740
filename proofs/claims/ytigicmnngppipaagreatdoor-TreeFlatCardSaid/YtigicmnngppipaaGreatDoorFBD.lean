/- What is asked of choose; a function over words is tried on each. Condition: the table of blanks. -/
import Derived.Test.YtigicmnngppipaaGreatDoorFBB
import Derived.Laws.Tables
import Derived.Laws.Rows
namespace Go.Proofs.YtigicmnngppipaaGreatDoor.Tp
open Go.RowKit Lx
set_option maxRecDepth 100000
def chF (x : S0) (r : List Tok) : Res S0 := mayP wOFFSET [] x (fun x r => bindR (intP 0 4611686018427387903 r) fun n r => .ok ({ x with offset := n }, r)) r
def chE (x : S0) (r : List Tok) : Res S0 := bindR (mayP wLIMIT [] x (fun x r => bindR (intP 1 4611686018427387903 r) fun n r => .ok ({ x with limit := n }, r)) r) chF
def chG (x : S0) (r : List Tok) : Res S0 := bindR (mayP wORDER [wDESC] x (fun x r => .ok ({ x with desc := true }, r)) r) chE
def chD (V : List UInt8 → Value × Int) (x : S0) (r : List Tok) : Res S0 := bindR (mayP wFILL [] x (fillP V) r) chG
def chC (V : List UInt8 → Value × Int) (x : S0) (r : List Tok) : Res S0 := bindR (mayP wGROUP [wBY] x (fun x r => dimsL 10 x r) r) (chD V)
def chB (V : List UInt8 → Value × Int) (x : S0) (r : List Tok) : Res S0 := mustP [wFROM] r fun r => bindR (nameP r) fun n r => bindR (whereP V r) fun c r => chC V { x with frm := n, whr := c } r
def chA (V : List UInt8 → Value × Int) (x : S0) (r : List Tok) : Res S0 := bindR (mayP wINTO [] x (fun x r => bindR (nameP r) fun n r => .ok ({ x with into := n }, r)) r) (chB V)
theorem chooseP_eq (V : List UInt8 → Value × Int) (ts : List Tok) : chooseP V ts = mustP [wSELECT] ts fun r => bindR (itemsP { s0 with kind := 1 } r) (chA V) := rfl
/-- The first word that is next. -/
def ixP : List ByteArray → Int → List Tok → Int × List Tok
  | [], _, ts => (-1, ts)
  | u :: us, i, ts => match hasP u [] ts with
    | .ok (true, r) => (i, r)
    | _ => ixP us (i + 1) ts
def fills : List ByteArray := [wNONE, wNULL, wPREVIOUS]
theorem fill_words (k : Nat) (u : ByteArray) (h : fills[k]? = some u) : Words u [u] := by
  match k, h with
  | 0, h => injection h with h; subst h; exact ⟨by decide, by decide, by decide, by decide⟩
  | 1, h => injection h with h; subst h; exact ⟨by decide, by decide, by decide, by decide⟩
  | 2, h => injection h with h; subst h; exact ⟨by decide, by decide, by decide, by decide⟩
theorem ixP_next {k : Nat} {u : ByteArray} {ts : List Tok} (hu : fills[k]? = some u) (h : hasP u [] ts = .ok (false, ts)) : ixP (fills.drop k) k ts = ixP (fills.drop (k + 1)) ((k : Int) + 1) ts := by
  obtain ⟨hk, rfl⟩ := List.getElem?_eq_some_iff.1 hu
  rw [List.drop_eq_getElem_cons hk]
  conv => lhs; unfold ixP
  rw [h]
theorem ixP_hit {k : Nat} {u : ByteArray} {ts r : List Tok} (hu : fills[k]? = some u) (h : hasP u [] ts = .ok (true, r)) : ixP (fills.drop k) k ts = ((k : Int), r) := by
  obtain ⟨hk, rfl⟩ := List.getElem?_eq_some_iff.1 hu
  rw [List.drop_eq_getElem_cons hk]
  conv => lhs; unfold ixP
  rw [h]
theorem ixP_cons (u : ByteArray) (us : List ByteArray) (i : Int) (t : Tok) (r : List Tok) : ixP (u :: us) i (t :: r) = if tokIs u t = true then (i, r) else ixP us (i + 1) (t :: r) := by
  conv => lhs; unfold ixP
  rw [hasP_cons]
  by_cases h : tokIs u t = true
  · rw [if_pos h, if_pos h]; rfl
  · rw [if_neg h, if_neg h]
theorem ixP_nil (i : Int) (ts : List Tok) : ixP [] i ts = (-1, ts) := rfl
/-- FILL by its words: what the index says. -/
theorem fillP_eq (V : List UInt8 → Value × Int) (x : S0) (ts : List Tok) : fillP V x ts = if (ixP fills 0 ts).1 + 1 ≠ 0 then .ok ({ x with fill := (ixP fills 0 ts).1 + 1 }, (ixP fills 0 ts).2) else match numP V (ixP fills 0 ts).2 with
    | some (v, r) => .ok ({ x with fill := 4, number := v }, r)
    | none => .error (ixP fills 0 ts).2 := by
  cases ts with
  | nil => rfl
  | cons t r =>
    simp only [fills, ixP_cons, ixP_nil, fillP, numP]
    by_cases h1 : tokIs wNONE t = true
    · simp [h1]
    · by_cases h2 : tokIs wNULL t = true
      · simp [h1, h2]
      · by_cases h3 : tokIs wPREVIOUS t = true
        · simp [h1, h2, h3]
        · simp only [h1, h2, h3, Bool.false_eq_true, if_false, Int.reduceNeg, Int.reduceAdd, ne_eq, not_true]
          cases numV V t <;> rfl
theorem ixP_size (ts : List Tok) : -1 ≤ (ixP fills 0 ts).1 ∧ (ixP fills 0 ts).1 ≤ 2 := by
  cases ts with
  | nil => decide
  | cons t r =>
    simp only [fills, ixP_cons, ixP_nil]
    by_cases h1 : tokIs wNONE t = true
    · simp [h1]
    · by_cases h2 : tokIs wNULL t = true
      · simp [h1, h2]
      · by_cases h3 : tokIs wPREVIOUS t = true
        · simp [h1, h2, h3]
        · simp [h1, h2, h3]
set_option maxHeartbeats 2000000 in
theorem index_78 (P n B : Nat) (ts : List Tok) (W w : World) (hE : Env W) (hW : Below W.heap.size W w) (hWP : W.heap.size ≤ P) (hP : PAt w P ts n 0) (hB : StrsAt w (some ⟨B, 0, none⟩) fills) (hne : B ≠ P) :
    Calls Tryz.prog 78 #[.slice (some ⟨B, 0, none⟩) 3 3, .func (.func 42) #[.pointer (some ⟨P, 0, none⟩)] #[]] w fun e w' => Kp (· = P) w w' ∧ e = .returned (.int .i64 (ixP fills 0 ts).1) ∧ PAt w' P (ixP fills 0 ts).2 n 0 := by
  have HB : Hid (∀ k u w', fills[k]? = some u → Kp (· = P) w w' → w'.cell? ⟨B, k, none⟩ = some (.string u)) := Lib.hid fun k u w' hk hw => by
    obtain ⟨hl, rfl⟩ := List.getElem?_eq_some_iff.1 hk
    obtain ⟨b, off, h1, h2, h3⟩ := hB k hl
    injection h1 with h1
    injection h1 with e1 e2
    subst e1 e2
    rw [Nat.zero_add] at h3
    exact (hw.cell (p := ⟨B, k, none⟩) h2 hne).trans h3
  have HM := Lib.hid fun u w' (hu : Words u [u]) (hk : Kp (· = P) w w') hp => has_42 P n 0 u u [] hu ts W w' hE (hW.trans (hk.below hW.size (fun k e => by show W.heap.size ≤ k; rw [e]; exact hWP))) hp
  have HP0 := Lib.hid hP
  clear hE hW hWP hP hB hne
  go_enter Tryz.func78, Tryz.ntmps78
  go_wp2_with fail
  go_loopw [8] (fun i wr => ∃ k : Nat, i = .int .i64 k ∧ k ≤ 3 ∧ Kp (· = P) w wr ∧ PAt wr P ts n 0 ∧ ixP fills 0 ts = ixP (fills.drop k) k ts) (fun i _ => 3 - (intOf i).toNat)
  case atStart => exact ⟨0, rfl, by omega, Kp.refl _ _, HP0.out, rfl⟩
  case round =>
    obtain ⟨k, rfl, hk3, hkp, hpat, hix⟩ := hrel
    have HKP := Lib.hid hkp
    have HPT := Lib.hid hpat
    have HIX := Lib.hid hix
    clear hkp hpat hix
    by_cases hk : k = 3
    · subst hk
      clear hk3
      have HX := Lib.hid (show ixP fills 0 ts = (-1, ts) from HIX.out)
      go_wp2_with fail
      go_ret
      exact ⟨HKP.out, by rw [HX.out]; rfl, by rw [HX.out]; exact HPT.out⟩
    · have hlt : (k : Int) < 3 := by omega
      have hlt2 : k < 3 := by omega
      obtain ⟨u, hu⟩ : ∃ u, fills[k]? = some u := ⟨_, List.getElem?_eq_getElem (by show k < 3; exact hlt2)⟩
      have c := HB.out k u wr hu HKP.out
      have HM2 := Lib.hid (HM.out u wr (fill_words k u hu) HKP.out HPT.out)
      have HU := Lib.hid hu
      clear hu hk hk3
      go_wp2_with fail
      refine HM2.out.mono ?_
      clear HM2
      rintro e w1 ⟨hk1, hm1⟩
      have HK1 := Lib.hid (HKP.out.then hk1)
      clear hk1
      rcases has_one u ts with ⟨e1, e2⟩ | ⟨t0, r, e0, e1, e2⟩
      · rw [e1] at hm1
        obtain ⟨rfl, hp1⟩ := hm1
        have HQ1 := Lib.hid hp1
        have HX := Lib.hid (HIX.out.trans (ixP_next HU.out e1))
        clear e1 e2 hp1
        go_wp2_with fail
        go_roundw
        case rel => exact ⟨k + 1, by simp, by omega, HK1.out, HQ1.out, by rw [HX.out]; rfl⟩
        case measure => simp [intOf]; omega
      · rw [e1] at hm1
        obtain ⟨rfl, hp1⟩ := hm1
        have HQ1 := Lib.hid hp1
        have HX := Lib.hid (HIX.out.trans (ixP_hit HU.out e1))
        clear e0 e1 e2 hp1
        go_wp2_with fail
        go_ret
        exact ⟨HK1.out, by rw [HX.out]; rfl, by rw [HX.out]; exact HQ1.out⟩
theorem has_len {u : ByteArray} {us : List ByteArray} {ts q : List Tok} {b : Bool} (h : hasP u us ts = .ok (b, q)) : q.length ≤ ts.length := by
  rcases has_any u us ts with e | ⟨r, e⟩ | ⟨r, e⟩
  · rw [e] at h; injection h with h; injection h with _ h; subst h; exact Nat.le_refl _
  · rw [e] at h; injection h with h; injection h with _ h; subst h
    cases ts with
    | nil => cases e
    | cons t r0 =>
      rw [hasP_cons] at e
      split at e
      · cases h2 : takeAll us r0 with
        | ok q2 => rw [h2] at e; injection e with e; injection e with _ e; subst e; have := takeAll_len h2; simp; omega
        | error q2 => rw [h2] at e; cases e
      · cases e
  · rw [e] at h; cases h
theorem itemP_len {ts q : List Tok} {i : ByteArray × ByteArray} (h : itemP ts = .ok (i, q)) : q.length ≤ ts.length := by
  rw [itemP_eq] at h
  split at h
  · simp only [mustP, bindR] at h
    cases h1 : takeAll [wOpen] ts.tail with
    | error q1 => rw [h1] at h; cases h
    | ok r1 =>
      rw [h1] at h
      cases h2 : nameP r1 with
      | error q2 => simp only [h2] at h; cases h
      | ok nr =>
        obtain ⟨nm, r2⟩ := nr
        simp only [h2] at h
        cases h3 : takeAll [wClose] r2 with
        | error q3 => rw [h3] at h; cases h
        | ok r3 =>
          rw [h3] at h
          injection h with h; injection h with _ h
          subst h
          have := takeAll_len h1; have := name_len h2; have := takeAll_len h3
          simp at *
          omega
  · cases h2 : nameP ts with
    | error q2 => rw [h2] at h; cases h
    | ok nr =>
      obtain ⟨nm, r2⟩ := nr
      rw [h2] at h
      injection h with h; injection h with _ h
      subst h
      have := name_len h2
      omega
theorem itemsL_len : ∀ (n : Nat) {acc l : List (ByteArray × ByteArray)} {ts q : List Tok}, itemsL n acc ts = .ok (l, q) → q.length ≤ ts.length := by
  intro n
  induction n with
  | zero => intro acc l ts q h; cases h
  | succ n ih =>
    intro acc l ts q h
    unfold itemsL at h
    split at h
    · cases h
    · cases h1 : itemP ts with
      | error q1 => rw [h1] at h; cases h
      | ok ir =>
        obtain ⟨i, r⟩ := ir
        rw [h1] at h
        have hl := itemP_len h1
        cases h2 : hasP wComma [] r with
        | error q2 => simp only [h2] at h; cases h
        | ok br =>
          obtain ⟨b, r2⟩ := br
          have hl2 := has_len h2
          cases b with
          | false => simp only [h2] at h; injection h with h; injection h with _ h; subst h; omega
          | true => simp only [h2] at h; have := ih h; omega
theorem itemsP_len {x y : S0} {ts q : List Tok} (h : itemsP x ts = .ok (y, q)) : q.length ≤ ts.length := by
  unfold itemsP at h
  cases h1 : hasP wStar [] ts with
  | error q1 => rw [h1] at h; cases h
  | ok br =>
    obtain ⟨b, r⟩ := br
    have hl := has_len h1
    cases b with
    | true => simp only [h1] at h; injection h with h; injection h with _ h; subst h; exact hl
    | false =>
      simp only [h1] at h
      cases h2 : itemsL 9 [] r with
      | error q2 => rw [h2] at h; cases h
      | ok lr =>
        obtain ⟨l, r2⟩ := lr
        simp only [h2] at h; injection h with h; injection h with _ h; subst h
        have := itemsL_len 9 h2
        omega
theorem has_bool (u : ByteArray) (us : List ByteArray) (ts : List Tok) : (∃ b q, hasP u us ts = .ok (b, q)) ∨ ∃ q, hasP u us ts = .error q := by
  cases h : hasP u us ts with
  | ok br => exact .inl ⟨br.1, br.2, rfl⟩
  | error q => exact .inr ⟨q, rfl⟩
def z17 : Array Value := #[.int .i64 0, .bool false, .slice none 0 0, .string ⟨#[]⟩, .string ⟨#[]⟩, .slice none 0 0, .int .i64 0, .slice none 0 0, .int .i64 0, .int .i64 0, .int .u64 0, .string ⟨#[]⟩, .bool false, .int .i64 0, .int .i64 0, .string ⟨#[]⟩, .slice none 0 0]
/-- The chosen statement while it is made: its block stands behind the result's. -/
structure ChI (P n : Nat) (w w' : World) (x : S0) (q : List Tok) (vi vw vt : Value) : Prop where
  kp : Kp (· = P) w w'
  pat : PAt w' P q n 0
  rat : w'.heap[w.heap.size]? = some (.cells z17 31 (0, 0))
  xat : w'.heap[w.heap.size + 1]? = some (.cells (stCells x vi vw vt vNil).toArray 31 (0, 0))
  its : w'.ownsRow (w.heap.size + 2) 83 2 vi x.items.length (itemCells x.items)
  whr : CdsIs w' (fun k => w.heap.size + 2 ≤ k) vw x.whr
  tgs : w'.ownsRow (w.heap.size + 2) 9 1 vt x.tags.length (x.tags.map Value.string)
theorem CdsIs.kpt {w w' : World} {P B : Nat} {v : Value} {cs : List Cd} (h : CdsIs w (fun k => B ≤ k) v cs) (hk : Kp (· = P) w w') (hP : P < B) : CdsIs w' (fun k => B ≤ k) v cs :=
  h.keep fun k hB hl => ⟨hk.block k hl (by show ¬ k = P; omega), hB⟩
theorem ChI.step {P n : Nat} {w w1 w2 : World} {x : S0} {q q' : List Tok} {vi vw vt : Value} (h : ChI P n w w1 x q vi vw vt) (hP : P < w.heap.size) (hk : Kp (· = P) w1 w2) (hp : PAt w2 P q' n 0) : ChI P n w w2 x q' vi vw vt :=
  ⟨h.kp.then hk, hp, (hk.block _ (lt_of_block h.rat) (by show ¬ w.heap.size = P; omega)).trans h.rat, (hk.block _ (lt_of_block h.xat) (by show ¬ w.heap.size + 1 = P; omega)).trans h.xat,
    owns_kp h.its hk (by omega), h.whr.kpt hk (by omega), owns_kp h.tgs hk (by omega)⟩
theorem ChI.set {P n : Nat} {w w1 : World} {x x' : S0} {q : List Tok} {vi vw vt vi' vw' vt' : Value} (h : ChI P n w w1 x q vi vw vt) (hP : P < w.heap.size) (c : Nat) (v : Value) (hv : (stCells x vi vw vt vNil).toArray.setIfInBounds c v = (stCells x' vi' vw' vt' vNil).toArray)
    (hi : w1.ownsRow (w.heap.size + 2) 83 2 vi' x'.items.length (itemCells x'.items)) (hw : CdsIs w1 (fun k => w.heap.size + 2 ≤ k) vw' x'.whr) (ht : w1.ownsRow (w.heap.size + 2) 9 1 vt' x'.tags.length (x'.tags.map Value.string)) : ChI P n w (w1.setCell ⟨w.heap.size + 1, c, none⟩ v) x' q vi' vw' vt' :=
  ⟨h.kp.set (p := ⟨w.heap.size + 1, c, none⟩) (.inr (by show w.heap.size ≤ w.heap.size + 1; omega)) v, h.pat.set (p := ⟨w.heap.size + 1, c, none⟩) (by show P < w.heap.size + 1; omega) v,
    (heap_setCell_other _ _ _ _ (by show w.heap.size ≠ w.heap.size + 1; omega)).trans h.rat, by rw [heap_setCell_same _ _ _ _ _ _ h.xat, hv],
    ownsRow_setCell_below hi (a := ⟨w.heap.size + 1, c, none⟩) (by show w.heap.size + 1 < w.heap.size + 2; omega) v,
    hw.keep fun k hB hl => ⟨heap_setCell_other _ _ _ _ (by show k ≠ w.heap.size + 1; omega), hB⟩,
    ownsRow_setCell_below ht (a := ⟨w.heap.size + 1, c, none⟩) (by show w.heap.size + 1 < w.heap.size + 2; omega) v⟩
def ChOut (P n : Nat) (w : World) (R : Res S0) (e : Ending) (w' : World) : Prop :=
  Kp (· = P) w w' ∧ match R with
  | .ok (x, q) => (∃ vi vw vt, e = .returned (.agg (stCells x vi vw vt vNil).toArray) ∧ w'.ownsRow w.heap.size 83 2 vi x.items.length (itemCells x.items) ∧ CdsIs w' (fun k => w.heap.size ≤ k) vw x.whr ∧ w'.ownsRow w.heap.size 9 1 vt x.tags.length (x.tags.map Value.string)) ∧ PAt w' P q n 0
  | .error q => e = stuckE n q
/-- Behind items. -/
theorem ChI.items {P n : Nat} {w w1 w2 : World} {y : S0} {q q' : List Tok} (h : ChI P n w w1 { s0 with kind := 1 } q vNil vNil vNil) (hP : P < w.heap.size) (hk : Kp (K2 P (w.heap.size + 1)) w1 w2) (hp : PAt w2 P q' n 0)
    (hy : y = { ({ s0 with kind := 1 } : S0) with all := y.all, items := y.items }) {vi : Value} (hx : w2.heap[w.heap.size + 1]? = some (.cells (XI y.all vi) 31 (0, 0))) (ho : w2.ownsRow w1.heap.size 83 2 vi y.items.length (itemCells y.items)) : ChI P n w w2 y q' vi vNil vNil := by
  refine ⟨h.kp.trans hk (fun i hi hs => ?_), hp, ?_, ?_, owns_base ho fun k e => by have := (ho.lt k e).1; have := lt_of_block h.xat; omega, ?_, ?_⟩
  · rcases hs with e | e
    · exact e
    · omega
  · exact (hk.block _ (lt_of_block h.rat) (fun e => by rcases e with e | e <;> omega)).trans h.rat
  · rw [hx, hy]; rfl
  · rw [hy]; exact .nil
  · rw [hy]; exact World.ownsRow_nil _ _ _ _
/-- Behind dims. -/
theorem ChI.dims {P n : Nat} {w w1 w2 : World} {x y : S0} {q q' : List Tok} {vi vw vt : Value} (h : ChI P n w w1 x q vi vw vNil) (hP : P < w.heap.size) (hx0 : x = { s0 with kind := 1, all := x.all, items := x.items, into := x.into, frm := x.frm, whr := x.whr }) (hk : Kp (K2 P (w.heap.size + 1)) w1 w2) (hp : PAt w2 P q' n 0)
    (hy : y = { x with window := y.window, tags := y.tags }) (hx : w2.heap[w.heap.size + 1]? = some (.cells (XA x.all vi x.into x.frm vw y.window vt) 31 (0, 0))) (ho : w2.ownsRow w1.heap.size 9 1 vt y.tags.length (y.tags.map Value.string)) : ChI P n w w2 y q' vi vw vt := by
  have hl : w.heap.size + 2 ≤ w1.heap.size := lt_of_block h.xat
  have hb : ∀ k, w.heap.size + 2 ≤ k → k < w1.heap.size → w2.heap[k]? = w1.heap[k]? := fun k h1 h2 => hk.block k h2 fun e => by rcases e with e | e <;> omega
  have hi : y.items = x.items := by rw [hy]
  have hw : y.whr = x.whr := by rw [hy]
  refine ⟨h.kp.trans hk (fun i hi hs => ?_), hp, ?_, ?_, ?_, ?_, owns_base ho fun k e => by have := (ho.lt k e).1; omega⟩
  · rcases hs with e | e
    · exact e
    · omega
  · exact (hk.block _ (lt_of_block h.rat) (fun e => by rcases e with e | e <;> omega)).trans h.rat
  · rw [hx, hy, hx0]; rfl
  · rw [hi]
    refine ⟨h.its.1, ?_⟩
    rcases h.its.2 with hn | ⟨g, cap, cur, rfl, hb', hg, r⟩
    · exact .inl hn
    · exact .inr ⟨g, cap, cur, rfl, hb', (hb g hb' (Array.getElem?_eq_some_iff.1 hg).1).trans hg, r⟩
  · rw [hw]
    exact h.whr.keep fun k h1 h2 => ⟨hb k h1 h2, h1⟩
/-- Behind where. -/
theorem ChI.where {P n : Nat} {w w1 w2 : World} {x : S0} {q q' : List Tok} {vi : Value} {v : Value} {l : List Cd} (h : ChI P n w w1 x q vi vNil vNil) (hP : P < w.heap.size) (hk : Kp (· = P) w1 w2) (hp : PAt w2 P q' n 0) (hc : CdsIs w2 (fun k => w1.heap.size ≤ k) v l) : ChI P n w (w2.setCell ⟨w.heap.size + 1, 5, none⟩ v) { x with whr := l } q' vi v vNil := by
  have hl : w.heap.size + 2 ≤ w1.heap.size := lt_of_block h.xat
  have h2 := h.step hP hk hp
  exact h2.set hP 5 v rfl h2.its (hc.keep fun k h1 _ => ⟨rfl, by omega⟩) h2.tgs
theorem Kp.setRow (w : World) (B : Nat) (cs : Array Value) : Kp (· = B) w (w.setRow B cs) := ⟨rfl, rfl, rfl, Nat.le_of_eq (setRow_size w B cs).symm, fun k _ hk => setRow_other w B k cs hk⟩
theorem Kp.row {S : Nat → Prop} {a w : World} (h : Kp S a w) {B : Nat} (hB : S B ∨ a.heap.size ≤ B) (cs : Array Value) : Kp S a (w.setRow B cs) :=
  h.trans (Kp.setRow w B cs) fun i hi e => by
    subst e
    rcases hB with q | q
    · exact q
    · omega
theorem PAt.setRow {w : World} {P n o B : Nat} {ts : List Tok} (h : PAt w P ts n o) (hB : P < B) (cs : Array Value) : PAt (w.setRow B cs) P ts n o := h.keep2 (Kp.setRow w B cs) hB
theorem st_size (x : S0) (vi vw vt vq : Value) : (stCells x vi vw vt vq).toArray.size = 17 := rfl
theorem items_one {w : World} {B e size n : Nat} {v : Value} {xs : List Value} (h : w.ownsRow B e size v n xs) : v.oneCell' = true := by
  rcases h.2 with ⟨rfl, _⟩ | ⟨g, cap, cur, rfl, _⟩ <;> rfl
theorem st_one {x : S0} {vi vw vt vq : Value} (h1 : vi.oneCell' = true) (h2 : vw.oneCell' = true) (h3 : vt.oneCell' = true) (h4 : vq.oneCell' = true) : (stCells x vi vw vt vq).toArray.all (·.oneCell') = true := by
  simp only [stCells, List.all_toArray, List.all_cons, List.all_nil, h1, h2, h3, h4]
  rfl
theorem ChI.one {P n : Nat} {w w1 : World} {x : S0} {q : List Tok} {vi vw vt : Value} (h : ChI P n w w1 x q vi vw vt) : (stCells x vi vw vt vNil).toArray.all (·.oneCell') = true := st_one (items_one h.its) (cds_one h.whr) (items_one h.tgs) rfl
/-- The end. -/
theorem ChI.fin {P n : Nat} {w w1 : World} {x : S0} {q : List Tok} {vi vw vt : Value} (h : ChI P n w w1 x q vi vw vt) (hP : P < w.heap.size) {cs : Array Value} (hv : (stCells x vi vw vt vNil).toArray = cs) {R : Res S0} (hR : R = .ok (x, q)) : ChOut P n w R (.returned (.agg cs)) (w1.setRow w.heap.size cs) := by
  have hk := Kp.setRow w1 w.heap.size cs
  rw [hR]
  refine ⟨h.kp.row (.inr (Nat.le_refl _)) cs, ⟨vi, vw, vt, by rw [hv], ?_, ?_, ?_⟩, h.pat.setRow hP cs⟩
  · exact owns_base (owns_kp h.its hk (by omega)) fun k e => by have := (h.its.lt k e).1; omega
  · exact (h.whr.kpt hk (by omega)).keep fun k h1 _ => ⟨rfl, by omega⟩
  · exact owns_base (owns_kp h.tgs hk (by omega)) fun k e => by have := (h.tgs.lt k e).1; omega
theorem strs_new (w : World) : StrsAt (w.alloc (.cells #[.string wNONE, .string wNULL, .string wPREVIOUS] 9 (0, 0))) (some ⟨w.heap.size, 0, none⟩) fills := by
  intro i hi
  have h := newest w (.cells #[.string wNONE, .string wNULL, .string wPREVIOUS] 9 (0, 0))
  refine ⟨w.heap.size, 0, rfl, lt_of_block h, ?_⟩
  have : i < 3 := hi
  match i, this with
  | 0, _ => exact Lib.cell_of_heap h 0
  | 1, _ => exact Lib.cell_of_heap h 1
  | 2, _ => exact Lib.cell_of_heap h 2
theorem alloc_size (w : World) (o : Obj) : (w.alloc o).heap.size = w.heap.size + 1 := Array.size_push _
theorem chi_start {P n : Nat} {w : World} {ts : List Tok} (h : PAt w P ts n 0) : ChI P n w ((w.alloc (.cells z17 31 (0, 0))).alloc (.cells (stCells { s0 with kind := 1 } vNil vNil vNil vNil).toArray 31 (0, 0))) { s0 with kind := 1 } ts vNil vNil vNil := by
  have h1 := newest (w.alloc (.cells z17 31 (0, 0))) (.cells (stCells { s0 with kind := 1 } vNil vNil vNil vNil).toArray 31 (0, 0))
  rw [alloc_size] at h1
  exact ⟨((Kp.refl _ _).alloc _).alloc _, (h.later ((Below.refl _ _).alloc (Nat.le_refl _) (.cells z17 31 (0, 0)))).later ((Below.refl _ _).alloc (Nat.le_refl _) _), (Below.heap_alloc _ _ _ (by rw [alloc_size]; omega)).trans (newest w (.cells z17 31 (0, 0))), h1, World.ownsRow_nil _ _ _ _, .nil, World.ownsRow_nil _ _ _ _⟩
end Go.Proofs.YtigicmnngppipaaGreatDoor.Tp
