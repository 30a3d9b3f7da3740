/- A statement is taken. Conditions: what ParseInt and the reader of values answer. -/
import Derived.Test.YtigicmnngppipaaGreatDoorFBE
namespace Go.Proofs.YtigicmnngppipaaGreatDoor.Tp
open Go.RowKit Lx
set_option maxRecDepth 100000
theorem words6 : Words ⟨#[68, 69, 76, 69, 84, 69, 32, 70, 82, 79, 77]⟩ [wDELETE, wFROM] ∧ Words ⟨#[68, 82, 79, 80]⟩ [wDROP] ∧ Words ⟨#[81, 85, 69, 82, 89]⟩ [wQUERY] ∧ Words ⟨#[77, 69, 65, 83, 85, 82, 69, 77, 69, 78, 84]⟩ [wMEASUREMENT] ∧ Words ⟨#[83, 72, 79, 87]⟩ [wSHOW] ∧ Words ⟨#[67, 82, 69, 65, 84, 69, 32, 81, 85, 69, 82, 89]⟩ [wCREATE, wQUERY] ∧ Words ⟨#[66, 69, 71, 73, 78]⟩ [wBEGIN] ∧ Words ⟨#[69, 78, 68]⟩ [wEND] := by
  refine ⟨?_, ?_, ?_, ?_, ?_, ?_, ?_, ?_⟩ <;> exact ⟨by decide, by decide, by decide, by decide⟩
/-- What hangs on a statement, in blocks from B on. -/
structure S0Is (w : World) (B : Nat) (s : S0) (vi vw vt : Value) : Prop where
  mk ::
  its : w.ownsRow (B + 1) 83 2 vi s.items.length (itemCells s.items)
  whr : CdsIs w (fun k => B ≤ k ∧ k ≠ B) vw s.whr
  tgs : w.ownsRow (B + 1) 9 1 vt s.tags.length (s.tags.map Value.string)
theorem S0Is.plain {w : World} {B : Nat} {s : S0} (h1 : s.items = []) (h2 : s.whr = []) (h3 : s.tags = []) : S0Is w B s vNil vNil vNil := by
  refine ⟨?_, ?_, ?_⟩
  · rw [h1]; exact World.ownsRow_nil _ _ _ _
  · rw [h2]; exact .nil
  · rw [h3]; exact World.ownsRow_nil _ _ _ _
theorem S0Is.rows {w : World} {B : Nat} {s : S0} {vi vw vt : Value} (h1 : w.ownsRow (B + 1) 83 2 vi s.items.length (itemCells s.items)) (h2 : CdsIs w (fun k => B ≤ k ∧ k ≠ B) vw s.whr) (h3 : w.ownsRow (B + 1) 9 1 vt s.tags.length (s.tags.map Value.string)) : S0Is w B s vi vw vt := ⟨h1, h2, h3⟩
theorem owns_le {w w' : World} {B e size n : Nat} {v : Value} {xs : List Value} (h : w.ownsRow B e size v n xs) (hk : ∀ k, B ≤ k → k < w.heap.size → w'.heap[k]? = w.heap[k]?) : w'.ownsRow B e size v n xs := by
  refine ⟨h.1, ?_⟩
  rcases h.2 with hn | ⟨g, cap, cur, rfl, hb, hg, r⟩
  · exact .inl hn
  · exact .inr ⟨g, cap, cur, rfl, hb, (hk g hb (Array.getElem?_eq_some_iff.1 hg).1).trans hg, r⟩
theorem S0Is.keep {w w' : World} {B : Nat} {s : S0} {vi vw vt : Value} (h : S0Is w B s vi vw vt) (hk : ∀ k, B < k → k < w.heap.size → w'.heap[k]? = w.heap[k]?) : S0Is w' B s vi vw vt :=
  ⟨owns_le h.its fun k h1 h2 => hk k h1 h2, h.whr.keep fun k h1 h2 => ⟨hk k (by omega) h2, h1⟩, owns_le h.tgs fun k h1 h2 => hk k h1 h2⟩
/-- The queries that hang on a statement: none, or one. -/
def QIs (w : World) (B : Nat) (q : List St) (vq : Value) : Prop :=
  (q = [] ∧ vq = vNil) ∨ ∃ s vi vw vt g, q = [.mk s []] ∧ vq = .slice (some ⟨g, 0, none⟩) 1 1 ∧ B < g ∧ w.heap[g]? = some (.cells (stCells s vi vw vt vNil).toArray 31 (0, 0)) ∧ S0Is w B s vi vw vt
def StIs (w : World) (B : Nat) (x : St) (v : Value) : Prop := ∃ vi vw vt vq, v = .agg (stCells x.s vi vw vt vq).toArray ∧ S0Is w B x.s vi vw vt ∧ QIs w B x.query vq
theorem QIs.keep {w w' : World} {B : Nat} {q : List St} {vq : Value} (h : QIs w B q vq) (hk : ∀ k, B < k → k < w.heap.size → w'.heap[k]? = w.heap[k]?) : QIs w' B q vq := by
  rcases h with h | ⟨s, vi, vw, vt, g, h1, h2, h3, h4, h5⟩
  · exact .inl h
  · exact .inr ⟨s, vi, vw, vt, g, h1, h2, h3, (hk g h3 (lt_of_block h4)).trans h4, h5.keep hk⟩
theorem StIs.keep {w w' : World} {B : Nat} {x : St} {v : Value} (h : StIs w B x v) (hk : ∀ k, B < k → k < w.heap.size → w'.heap[k]? = w.heap[k]?) : StIs w' B x v := by
  obtain ⟨vi, vw, vt, vq, h1, h2, h3⟩ := h
  exact ⟨vi, vw, vt, vq, h1, h2.keep hk, h3.keep hk⟩
def StOut (P n : Nat) (w : World) (R : Res St) (e : Ending) (w' : World) : Prop :=
  Kp (· = P) w w' ∧ match R with
  | .ok (x, q) => (∃ v, e = .returned v ∧ StIs w' w.heap.size x v) ∧ PAt w' P q n 0
  | .error q => e = stuckE n q
/-- While a statement is taken. -/
structure SI (P n : Nat) (w w' : World) (q : List Tok) : Prop where
  kp : Kp (· = P) w w'
  pat : PAt w' P q n 0
  rat : w'.heap[w.heap.size]? = some (.cells z17 31 (0, 0))
theorem SI.step {P n : Nat} {w w1 w2 : World} {q q' : List Tok} (h : SI P n w w1 q) (hP : P < w.heap.size) (hk : Kp (· = P) w1 w2) (hp : PAt w2 P q' n 0) : SI P n w w2 q' :=
  ⟨h.kp.then hk, hp, (hk.block _ (lt_of_block h.rat) (by show ¬ w.heap.size = P; omega)).trans h.rat⟩
theorem SI.alloc {P n : Nat} {w w1 : World} {q : List Tok} (h : SI P n w w1 q) (hP : P < w.heap.size) (o : Obj) : SI P n w (w1.alloc o) q :=
  h.step hP ((Kp.refl _ _).alloc o) (h.pat.later ((Below.refl _ _).alloc (Nat.le_refl _) o))
theorem SI.far {P n : Nat} {w w1 : World} {q : List Tok} (h : SI P n w w1 q) (hP : P < w.heap.size) {p : Addr} (hp : w.heap.size < p.block) (u : Value) : SI P n w (w1.setCell p u) q :=
  ⟨h.kp.set (.inr (Nat.le_of_lt hp)) u, h.pat.set (Nat.lt_trans hP hp) u, (heap_setCell_other _ _ _ _ (Nat.ne_of_lt hp)).trans h.rat⟩
theorem SI.fin {P n : Nat} {w w1 : World} {q : List Tok} (h : SI P n w w1 q) (hP : P < w.heap.size) {x : S0} {vi vw vt : Value} (hr : S0Is w1 w.heap.size x vi vw vt) : StOut P n w (.ok (.mk x [], q)) (.returned (.agg (stCells x vi vw vt vNil).toArray)) (w1.setRow w.heap.size (stCells x vi vw vt vNil).toArray) :=
  ⟨h.kp.row (.inr (Nat.le_refl _)) _, ⟨_, rfl, vi, vw, vt, vNil, rfl, hr.keep fun k h1 _ => setRow_other _ _ _ _ (by omega), .inl ⟨rfl, rfl⟩⟩, h.pat.setRow hP _⟩
theorem SI.finQ {P n : Nat} {w w1 : World} {q : List Tok} (h : SI P n w w1 q) (hP : P < w.heap.size) {x : S0} {qs : List St} {vi vw vt vq : Value} (hr : S0Is w1 w.heap.size x vi vw vt) (hq : QIs w1 w.heap.size qs vq) : StOut P n w (.ok (.mk x qs, q)) (.returned (.agg (stCells x vi vw vt vq).toArray)) (w1.setRow w.heap.size (stCells x vi vw vt vq).toArray) :=
  ⟨h.kp.row (.inr (Nat.le_refl _)) _, ⟨_, rfl, vi, vw, vt, vq, rfl, hr.keep fun k h1 _ => setRow_other _ _ _ _ (by omega), hq.keep fun k h1 _ => setRow_other _ _ _ _ (by omega)⟩, h.pat.setRow hP _⟩
theorem bindR_ok {α β : Type} {a : Res α} {f : α → List Tok → Res β} {y : β} {q : List Tok} (h : bindR a f = .ok (y, q)) : ∃ x r, a = .ok (x, r) ∧ f x r = .ok (y, q) := by
  cases a with
  | error e => cases h
  | ok p => exact ⟨p.1, p.2, rfl, h⟩
theorem mustP_ok {β : Type} {ws : List ByteArray} {ts : List Tok} {f : List Tok → Res β} {y : β × List Tok} (h : mustP ws ts f = .ok y) : ∃ r, takeAll ws ts = .ok r ∧ f r = .ok y := by
  unfold mustP at h
  cases e : takeAll ws ts with
  | error e' => rw [e] at h; cases h
  | ok r => rw [e] at h; exact ⟨r, rfl, h⟩
theorem ifHas_ok {β : Type} {w : ByteArray} {ws : List ByteArray} {ts : List Tok} {f g : List Tok → Res β} {y : β × List Tok} (h : ifHas w ws ts f g = .ok y) : (∃ r, hasP w ws ts = .ok (true, r) ∧ f r = .ok y) ∨ ∃ r, hasP w ws ts = .ok (false, r) ∧ g r = .ok y := by
  unfold ifHas at h
  cases e : hasP w ws ts with
  | error e' => rw [e] at h; cases h
  | ok br =>
    obtain ⟨b, r⟩ := br
    rw [e] at h
    cases b with
    | true => exact .inl ⟨r, rfl, h⟩
    | false => exact .inr ⟨r, rfl, h⟩
theorem show_form {ts q : List Tok} {x : S0} (h : showP ts = .ok (x, q)) : x.items = [] ∧ x.whr = [] ∧ x.tags = [] := by
  unfold showP at h
  rcases ifHas_ok h with ⟨r, _, h⟩ | ⟨r, _, h⟩
  · cases h; exact ⟨rfl, rfl, rfl⟩
  rcases ifHas_ok h with ⟨r, _, h⟩ | ⟨r, _, h⟩
  · cases h; exact ⟨rfl, rfl, rfl⟩
  rcases ifHas_ok h with ⟨r, _, h⟩ | ⟨r, _, h⟩
  · rcases ifHas_ok h with ⟨r, _, h⟩ | ⟨r, _, h⟩
    · obtain ⟨_, _, _, h⟩ := bindR_ok h
      cases h; exact ⟨rfl, rfl, rfl⟩
    · cases h; exact ⟨rfl, rfl, rfl⟩
  rcases ifHas_ok h with ⟨r, _, h⟩ | ⟨r, _, h⟩
  · obtain ⟨_, _, _, h⟩ := bindR_ok h
    cases h; exact ⟨rfl, rfl, rfl⟩
  obtain ⟨_, _, h⟩ := mustP_ok h
  rcases ifHas_ok h with ⟨r, _, h⟩ | ⟨r, _, h⟩
  · obtain ⟨_, _, _, h⟩ := bindR_ok h
    cases h; exact ⟨rfl, rfl, rfl⟩
  obtain ⟨_, _, h⟩ := mustP_ok h
  obtain ⟨_, _, _, h⟩ := bindR_ok h
  obtain ⟨_, _, h⟩ := mustP_ok h
  obtain ⟨_, _, _, h⟩ := bindR_ok h
  cases h; exact ⟨rfl, rfl, rfl⟩
theorem setCell_size (w : World) (p : Addr) (u : Value) : (w.setCell p u).heap.size = w.heap.size := by simp [World.setCell]
theorem fold17 (cs : Array Value) (h : cs.size = 17) : Array.foldl (fun (cs : Array Value) (x : Value × Nat) => cs.setIfInBounds x.snd x.fst) #[.int .i64 0, .bool false, .slice none 0 0, .string ⟨#[]⟩, .string ⟨#[]⟩, .slice none 0 0, .int .i64 0, .slice none 0 0, .int .i64 0, .int .i64 0, .int .u64 0, .string ⟨#[]⟩, .bool false, .int .i64 0, .int .i64 0, .string ⟨#[]⟩, .slice none 0 0] cs.zipIdx 0 cs.size = cs := by
  obtain ⟨l⟩ := cs
  match l, h with
  | [a0, a1, a2, a3, a4, a5, a6, a7, a8, a9, a10, a11, a12, a13, a14, a15, a16], _ => simp [List.zipIdx_cons]
set_option maxHeartbeats 8000000 in
theorem statement_23 (P n : Nat) {V : List UInt8 → Value × Int} (W : World) (hR : Rd V W) (hWP : W.heap.size ≤ P) (ts : List Tok) (w : World) (hL : ts.length ≤ 70000) (hW : Below W.heap.size W w) (hP : PAt w P ts n 0) :
    Calls Tryz.prog 23 #[.pointer (some ⟨P, 0, none⟩)] w (StOut P n w (stmtP V ts)) := by
  obtain ⟨PP, hPP⟩ : ∃ PP, StOut P n w (stmtP V ts) = PP := ⟨_, rfl⟩
  rw [hPP]
  have HPP := Lib.hid hPP
  have HR := Lib.hid hR
  have HW := Lib.hid hW
  have HWP := Lib.hid hWP
  have HPB := Lib.hid hP.lt
  have HP := Lib.hid hP
  have HL := Lib.hid hL
  clear hPP hR hW hWP hP hL
  go_enter Tryz.func23, Tryz.ntmps23
  go_upto_region 1 with (fail)
  refine wp_gen (fun w0 => SI P n w w0 ts) ⟨(Kp.refl _ _).alloc _, HP.out.later ((Below.refl _ _).alloc (Nat.le_refl _) (.cells z17 31 (0, 0))), newest w (.cells z17 31 (0, 0))⟩ ?_
  intro w0 hi0
  have HI0 := Lib.hid hi0
  clear hi0
  have HM1 := Lib.hid (has_42 P n 0 ⟨#[68, 69, 76, 69, 84, 69, 32, 70, 82, 79, 77]⟩ wDELETE [wFROM] words6.1 ts W w0 HR.out.env (HW.out.trans (HI0.out.kp.below HW.out.size (fun k e => by show W.heap.size ≤ k; rw [e]; exact HWP.out))) HI0.out.pat)
  go_wp2_with fail
  refine HM1.out.mono ?_
  clear HM1
  rintro e w1 ⟨hk1, hm1⟩
  rcases has_any wDELETE [wFROM] ts with e1 | ⟨r1, e1⟩ | ⟨q1, e1⟩
  · rw [e1] at hm1
    obtain ⟨rfl, hp1⟩ := hm1
    have HI1 := Lib.hid (HI0.out.step HPB.out hk1 hp1)
    have E1 := Lib.hid e1
    clear e1 hp1 hk1
    have HM2 := Lib.hid (has_42 P n 0 ⟨#[68, 82, 79, 80]⟩ wDROP [] words6.2.1 ts W w1 HR.out.env (HW.out.trans (HI1.out.kp.below HW.out.size (fun k e => by show W.heap.size ≤ k; rw [e]; exact HWP.out))) HI1.out.pat)
    go_wp2_with fail
    refine HM2.out.mono ?_
    clear HM2
    rintro e w2 ⟨hk2, hm2⟩
    rcases has_any wDROP [] ts with e1 | ⟨r2, e1⟩ | ⟨q2, e1⟩
    · rw [e1] at hm2
      obtain ⟨rfl, hp2⟩ := hm2
      have HI2 := Lib.hid (HI1.out.step HPB.out hk2 hp2)
      have E2 := Lib.hid e1
      clear e1 hp2 hk2
      have HM3 := Lib.hid (has_42 P n 0 ⟨#[83, 72, 79, 87]⟩ wSHOW [] words6.2.2.2.2.1 ts W w2 HR.out.env (HW.out.trans (HI2.out.kp.below HW.out.size (fun k e => by show W.heap.size ≤ k; rw [e]; exact HWP.out))) HI2.out.pat)
      go_wp2_with fail
      refine HM3.out.mono ?_
      clear HM3
      rintro e w3 ⟨hk3, hm3⟩
      rcases has_any wSHOW [] ts with e1 | ⟨r3, e1⟩ | ⟨q3, e1⟩
      · rw [e1] at hm3
        obtain ⟨rfl, hp3⟩ := hm3
        have HI3 := Lib.hid (HI2.out.step HPB.out hk3 hp3)
        have E3 := Lib.hid e1
        clear e1 hp3 hk3
        have HM4 := Lib.hid (has_42 P n 0 ⟨#[67, 82, 69, 65, 84, 69, 32, 81, 85, 69, 82, 89]⟩ wCREATE [wQUERY] words6.2.2.2.2.2.1 ts W w3 HR.out.env (HW.out.trans (HI3.out.kp.below HW.out.size (fun k e => by show W.heap.size ≤ k; rw [e]; exact HWP.out))) HI3.out.pat)
        go_wp2_with fail
        refine HM4.out.mono ?_
        clear HM4
        rintro e w4 ⟨hk4, hm4⟩
        rcases has_any wCREATE [wQUERY] ts with e1 | ⟨r4, e1⟩ | ⟨q4, e1⟩
        · rw [e1] at hm4
          obtain ⟨rfl, hp4⟩ := hm4
          have HI4 := Lib.hid (HI3.out.step HPB.out hk4 hp4)
          have E4 := Lib.hid e1
          clear e1 hp4 hk4
          have HN5 : Hid (ts.length ≤ 70000) := HL
          have HM5 := Lib.hid (choose_47 P n W HR.out HWP.out ts w4 HN5.out (HW.out.trans (HI4.out.kp.below HW.out.size (fun k e => by show W.heap.size ≤ k; rw [e]; exact HWP.out))) HI4.out.pat)
          go_wp2_with fail
          refine HM5.out.mono ?_
          clear HM5
          rintro e w5 ⟨hk5, hm5⟩
          cases hsh : chooseP V ts with
          | error q5 =>
            rw [hsh] at hm5
            obtain rfl := hm5
            unfold stuckE
            simp (config := { zetaDelta := true }) only []
            refine ⟨rfl, ?_⟩
            rw [← HPP.out, show stmtP V ts = .error _ by simp only [stmtP, ifHas, bindR, E1.out, E2.out, E3.out, E4.out, hsh]; rfl]
            exact ⟨HI4.out.kp.then hk5, rfl⟩
          | ok xr =>
            obtain ⟨x, r5⟩ := xr
            rw [hsh] at hm5
            obtain ⟨⟨vi, vw, vt, rfl, hi, hw, ht⟩, hp5⟩ := hm5
            have hlt := lt_of_block HI4.out.rat
            have HO := Lib.hid (st_one (x := x) (vq := vNil) (items_one hi) (cds_one hw) (items_one ht) rfl)
            have HI5 := Lib.hid (HI4.out.step HPB.out hk5 hp5)
            have EW := Lib.hid hsh
            have HRW := Lib.hid (S0Is.mk (owns_base hi fun k e => by have := (hi.lt k e).1; show w.heap.size + 1 ≤ k; omega) (hw.keep (D' := fun k => w.heap.size ≤ k ∧ k ≠ w.heap.size) fun k h1 _ => ⟨rfl, by omega, by omega⟩) (owns_base ht fun k e => by have := (ht.lt k e).1; show w.heap.size + 1 ≤ k; omega))
            obtain ⟨cs, hcs⟩ : ∃ cs, (stCells x vi vw vt vNil).toArray = cs := ⟨_, rfl⟩
            have HSZ : Hid (cs.size = 17) := Lib.hid (by rw [← hcs]; rfl)
            rw [hcs] at HO
            have HCS := Lib.hid hcs
            rw [hcs]
            clear hsh hp5 hk5 hi hw ht hlt hcs
            go_wp2_with (refine wpList_store_row (by rfl) 31 _ _ (by rfl) w.heap.size cs (by rfl) (by rfl) 31 z17 HI5.out.rat (by rw [HSZ.out]; exact info31s) (by rw [HSZ.out]; rfl) HO.out ?_)
            refine bodyPost_ret (results_cell_row rfl _ _ w.heap.size 31 _ (0, 0) _ rfl (setRow_heap _ _ _ _ _ _ HI5.out.rat) Tryz.underlying31 (by rfl) (by rw [HSZ.out]; exact info31s)) rfl ?_
            rw [← HPP.out, show stmtP V ts = .ok (.mk x [], r5) by simp only [stmtP, ifHas, bindR, E1.out, E2.out, E3.out, E4.out, EW.out], ← HCS.out]
            exact HI5.out.fin HPB.out HRW.out
        · rw [e1] at hm4
          obtain ⟨rfl, hp4⟩ := hm4
          have HI4 := Lib.hid (HI3.out.step HPB.out hk4 hp4)
          have E4 := Lib.hid e1
          clear e1 hp4 hk4
          have HM6 := Lib.hid (name_43 P n 0 r4 W w4 HR.out.env (HW.out.trans (HI4.out.kp.below HW.out.size (fun k e => by show W.heap.size ≤ k; rw [e]; exact HWP.out))) HI4.out.pat)
          go_wp2_with fail
          refine HM6.out.mono ?_
          clear HM6
          rintro e w6 ⟨hk6, hm6⟩
          cases hnm6 : nameP r4 with
          | error q6 =>
            rw [hnm6] at hm6
            obtain rfl := hm6
            unfold stuckE
            simp (config := { zetaDelta := true }) only []
            refine ⟨rfl, ?_⟩
            rw [← HPP.out, show stmtP V ts = .error _ by simp only [stmtP, ifHas, bindR, E1.out, E2.out, E3.out, E4.out, hnm6]; rfl]
            exact ⟨HI4.out.kp.then hk6, rfl⟩
          | ok nr6 =>
            obtain ⟨nm6, r6⟩ := nr6
            rw [hnm6] at hm6
            obtain ⟨rfl, hp6⟩ := hm6
            have HI6 := Lib.hid (HI4.out.step HPB.out hk6 hp6)
            have E6 := Lib.hid hnm6
            clear hnm6 hp6 hk6
            have HX0 := Lib.hid (newest w6 (.cells (stCells { s0 with kind := 9, name := nm6 } vNil vNil vNil vNil).toArray 31 (0, 0)))
            have HJ := Lib.hid (HI6.out.alloc HPB.out (.cells (stCells { s0 with kind := 9, name := nm6 } vNil vNil vNil vNil).toArray 31 (0, 0)))
            have HWX := Lib.hid (lt_of_block HI6.out.rat)
            have HNL : Hid (r6.length ≤ 70000) := Lib.hid (by have := name_len E6.out; have := has_len E4.out; have := HL.out; omega)
            have HM7 := Lib.hid (must_45 P n 0 ⟨#[66, 69, 71, 73, 78]⟩ wBEGIN [] words6.2.2.2.2.2.2.1 r6 W (w6.alloc (.cells (stCells { s0 with kind := 9, name := nm6 } vNil vNil vNil vNil).toArray 31 (0, 0))) HR.out.env (HW.out.trans (HJ.out.kp.below HW.out.size (fun k e => by show W.heap.size ≤ k; rw [e]; exact HWP.out))) HJ.out.pat)
            go_wp2_with fail
            refine HM7.out.mono ?_
            clear HM7
            rintro e w7 ⟨hk7, hm7⟩
            cases hta7 : takeAll [wBEGIN] r6 with
            | error q7 =>
              simp only [mustR, hta7] at hm7
              obtain rfl := hm7
              unfold stuckE
              simp (config := { zetaDelta := true }) only []
              refine ⟨rfl, ?_⟩
              rw [← HPP.out, show stmtP V ts = .error _ by simp only [stmtP, ifHas, mustP, bindR, E1.out, E2.out, E3.out, E4.out, E6.out, hta7]; rfl]
              exact ⟨HJ.out.kp.then hk7, rfl⟩
            | ok r7 =>
              simp only [mustR, hta7] at hm7
              obtain ⟨rfl, hp7⟩ := hm7
              have HI7 := Lib.hid (HJ.out.step HPB.out hk7 hp7)
              have E7 := Lib.hid hta7
              have HX1 := Lib.hid ((hk7.block w6.heap.size (lt_of_block HX0.out) (by show ¬ w6.heap.size = P; have := HPB.out; have := HWX.out; omega)).trans HX0.out)
              clear hta7 hp7 hk7
              have HN8 : Hid (r7.length ≤ 70000) := Lib.hid (by have := takeAll_len E7.out; have := HNL.out; omega)
              have HM8 := Lib.hid (choose_47 P n W HR.out HWP.out r7 w7 HN8.out (HW.out.trans (HI7.out.kp.below HW.out.size (fun k e => by show W.heap.size ≤ k; rw [e]; exact HWP.out))) HI7.out.pat)
              go_wp2_with fail
              refine HM8.out.mono ?_
              clear HM8
              rintro e w8 ⟨hk8, hm8⟩
              cases hsh : chooseP V r7 with
              | error q8 =>
                rw [hsh] at hm8
                obtain rfl := hm8
                unfold stuckE
                simp (config := { zetaDelta := true }) only []
                refine ⟨rfl, ?_⟩
                rw [← HPP.out, show stmtP V ts = .error _ by simp only [stmtP, ifHas, mustP, bindR, E1.out, E2.out, E3.out, E4.out, E6.out, E7.out, hsh]; rfl]
                exact ⟨HI7.out.kp.then hk8, rfl⟩
              | ok xr =>
                obtain ⟨x, r8⟩ := xr
                rw [hsh] at hm8
                obtain ⟨⟨vi, vw, vt, rfl, hi, hw, ht⟩, hp8⟩ := hm8
                have hlt := lt_of_block HX1.out
                have hwx := HWX.out
                have HO := Lib.hid (st_one (x := x) (vq := vNil) (items_one hi) (cds_one hw) (items_one ht) rfl)
                have HI8 := Lib.hid (HI7.out.step HPB.out hk8 hp8)
                have HX2 := Lib.hid ((hk8.block w6.heap.size (lt_of_block HX1.out) (by show ¬ w6.heap.size = P; have := HPB.out; have := HWX.out; omega)).trans HX1.out)
                have E8 := Lib.hid hsh
                have hi2 := owns_base (base' := w6.heap.size + 1) hi fun k e => by have := (hi.lt k e).1; omega
                have hw2 := hw.keep (w' := w8) (D' := fun k => w6.heap.size + 1 ≤ k) fun k h1 _ => ⟨rfl, by omega⟩
                have ht2 := owns_base (base' := w6.heap.size + 1) ht fun k e => by have := (ht.lt k e).1; omega
                have HRW := Lib.hid (And.intro hi2 (And.intro hw2 ht2))
                obtain ⟨cs, hcs⟩ : ∃ cs, (stCells x vi vw vt vNil).toArray = cs := ⟨_, rfl⟩
                have HSZ : Hid (cs.size = 17) := Lib.hid (by rw [← hcs]; rfl)
                rw [hcs] at HO
                have HCS := Lib.hid hcs
                rw [hcs]
                clear hsh hp8 hk8 hi hw ht hi2 hw2 ht2 hlt hwx hcs
                have hsz17 := HSZ.out
                have hfold := fold17 cs HSZ.out
                rw [hsz17] at hfold
                have d16 : w8.cell? ⟨w6.heap.size, 16, none⟩ = some (.slice none 0 0) := Lib.cell_of_heap HX2.out 16
                have f16 : w8.frozen? ⟨w6.heap.size, 16, none⟩ = false := Lib.frozen_of_heap HX2.out 16
                have hlx := lt_of_block HX2.out
                have hnx : w.heap.size < w6.heap.size := HWX.out
                have HIS := Lib.hid ((HI8.out.far HPB.out (p := ⟨w6.heap.size, 16, none⟩) hnx (.slice (some ⟨w8.heap.size, 0, none⟩) 1 1)).alloc HPB.out (.cells cs 31 (0, 0)))
                have HXS := Lib.hid (show ((w8.setCell ⟨w6.heap.size, 16, none⟩ (.slice (some ⟨w8.heap.size, 0, none⟩) 1 1)).alloc (.cells cs 31 (0, 0))).heap[w6.heap.size]? = some (.cells (stCells { s0 with kind := 9, name := nm6 } vNil vNil vNil (.slice (some ⟨w8.heap.size, 0, none⟩) 1 1)).toArray 31 (0, 0)) from (Below.heap_alloc _ _ _ (by rw [setCell_size]; exact hlx)).trans (heap_setCell_same _ _ _ _ _ _ HX2.out))
                have HKS : Hid (∀ k, w6.heap.size + 1 ≤ k → k < w8.heap.size → ((w8.setCell ⟨w6.heap.size, 16, none⟩ (.slice (some ⟨w8.heap.size, 0, none⟩) 1 1)).alloc (.cells cs 31 (0, 0))).heap[k]? = w8.heap[k]?) := Lib.hid fun k h1 h2 => (Below.heap_alloc _ _ _ (by rw [setCell_size]; exact h2)).trans (heap_setCell_other _ _ _ _ (by show k ≠ w6.heap.size; omega))
                have HGS := Lib.hid (show ((w8.setCell ⟨w6.heap.size, 16, none⟩ (.slice (some ⟨w8.heap.size, 0, none⟩) 1 1)).alloc (.cells cs 31 (0, 0))).heap[w8.heap.size]? = some (.cells cs 31 (0, 0)) from by have := newest (w8.setCell ⟨w6.heap.size, 16, none⟩ (.slice (some ⟨w8.heap.size, 0, none⟩) 1 1)) (.cells cs 31 (0, 0)); rw [setCell_size] at this; exact this)
                have HM9 := Lib.hid (must_45 P n 0 ⟨#[69, 78, 68]⟩ wEND [] words6.2.2.2.2.2.2.2 r8 W ((w8.setCell ⟨w6.heap.size, 16, none⟩ (.slice (some ⟨w8.heap.size, 0, none⟩) 1 1)).alloc (.cells cs 31 (0, 0))) HR.out.env (HW.out.trans (HIS.out.kp.below HW.out.size (fun k e => by show W.heap.size ≤ k; rw [e]; exact HWP.out))) HIS.out.pat)
                go_wp2_with fail
                refine HM9.out.mono ?_
                clear HM9
                rintro e w9 ⟨hk9, hm9⟩
                cases hta9 : takeAll [wEND] r8 with
                | error q9 =>
                  simp only [mustR, hta9] at hm9
                  obtain rfl := hm9
                  unfold stuckE
                  simp (config := { zetaDelta := true }) only []
                  refine ⟨rfl, ?_⟩
                  rw [← HPP.out, show stmtP V ts = .error _ by simp only [stmtP, ifHas, mustP, bindR, E1.out, E2.out, E3.out, E4.out, E6.out, E7.out, E8.out, hta9]; rfl]
                  exact ⟨HIS.out.kp.then hk9, rfl⟩
                | ok r9 =>
                  simp only [mustR, hta9] at hm9
                  obtain ⟨rfl, hp9⟩ := hm9
                  have HI9 := Lib.hid (HIS.out.step HPB.out hk9 hp9)
                  have E9 := Lib.hid hta9
                  have hkx := HWX.out
                  have hlx2 := lt_of_block HXS.out
                  have hlg2 := lt_of_block HGS.out
                  have HX3 := Lib.hid ((hk9.block w6.heap.size hlx2 (by show ¬ w6.heap.size = P; have := HPB.out; have := HWX.out; omega)).trans HXS.out)
                  have HG3 := Lib.hid ((hk9.block w8.heap.size hlg2 (by show ¬ w8.heap.size = P; have := HPB.out; omega)).trans HGS.out)
                  have HK3 : Hid (∀ k, w6.heap.size + 1 ≤ k → k < w8.heap.size → w9.heap[k]? = w8.heap[k]?) := Lib.hid fun k h1 h2 => (hk9.block k (Nat.lt_trans h2 hlg2) (by show ¬ k = P; have := HPB.out; omega)).trans (HKS.out k h1 h2)
                  have HGX : Hid (w6.heap.size < w8.heap.size) := Lib.hid hlx
                  clear hfold hsz17 d16 f16 hlx hnx hkx hlx2 hlg2
                  clear hta9 hp9 hk9
                  have HO9 := Lib.hid (show (stCells { s0 with kind := 9, name := nm6 } vNil vNil vNil (.slice (some ⟨w8.heap.size, 0, none⟩) 1 1)).toArray.all (·.oneCell') = true from st_one rfl rfl rfl rfl)
                  go_wp2_with (first
                    | (refine wpList_load_row (by rfl) 31 _ (by rfl) w6.heap.size (by rfl) 31 (stCells { s0 with kind := 9, name := nm6 } vNil vNil vNil (.slice (some ⟨w8.heap.size, 0, none⟩) 1 1)).toArray (0, 0) _ HX3.out Tryz.underlying31 (by rfl) info31s ?_)
                    | (refine wpList_store_row (by rfl) 31 _ _ (by rfl) w.heap.size (stCells { s0 with kind := 9, name := nm6 } vNil vNil vNil (.slice (some ⟨w8.heap.size, 0, none⟩) 1 1)).toArray (by rfl) (by rfl) 31 z17 HI9.out.rat info31s (by rfl) HO9.out ?_))
                  refine bodyPost_ret (results_cell_row rfl _ _ w.heap.size 31 (stCells { s0 with kind := 9, name := nm6 } vNil vNil vNil (.slice (some ⟨w8.heap.size, 0, none⟩) 1 1)).toArray (0, 0) _ rfl (setRow_heap _ _ _ _ _ _ HI9.out.rat) Tryz.underlying31 (by rfl) info31s) rfl ?_
                  rw [← HPP.out, show stmtP V ts = .ok (.mk { s0 with kind := 9, name := nm6 } [.mk x []], r9) by simp only [stmtP, ifHas, mustP, bindR, E1.out, E2.out, E3.out, E4.out, E6.out, E7.out, E8.out, E9.out]]
                  refine HI9.out.finQ HPB.out (.plain rfl rfl rfl) (.inr ⟨x, vi, vw, vt, w8.heap.size, rfl, rfl, Nat.lt_trans HWX.out HGX.out, by rw [HCS.out]; exact HG3.out, ?_⟩)
                  obtain ⟨hi, hw, ht⟩ := HRW.out
                  have hwx := HWX.out
                  refine ⟨owns_base (owns_le hi fun k h1 h2 => HK3.out k h1 h2) fun k e => by have := (hi.lt k e).1; omega, hw.keep fun k h1 h2 => ⟨HK3.out k h1 h2, by omega, by omega⟩, owns_base (owns_le ht fun k h1 h2 => HK3.out k h1 h2) fun k e => by have := (ht.lt k e).1; omega⟩
        · rw [e1] at hm4
          obtain rfl := hm4
          unfold stuckE
          simp (config := { zetaDelta := true }) only []
          refine ⟨rfl, ?_⟩
          rw [← HPP.out, show stmtP V ts = .error _ by simp only [stmtP, ifHas, E1.out, E2.out, E3.out, e1]; rfl]
          exact ⟨HI3.out.kp.then hk4, rfl⟩
      · rw [e1] at hm3
        obtain ⟨rfl, hp3⟩ := hm3
        have HI3 := Lib.hid (HI2.out.step HPB.out hk3 hp3)
        have E3 := Lib.hid e1
        clear e1 hp3 hk3
        have HM10 := Lib.hid (show_46 P n W HR.out.env HWP.out r3 w3 (HW.out.trans (HI3.out.kp.below HW.out.size (fun k e => by show W.heap.size ≤ k; rw [e]; exact HWP.out))) HI3.out.pat)
        go_wp2_with fail
        refine HM10.out.mono ?_
        clear HM10
        rintro e w10 ⟨hk10, hm10⟩
        cases hsh : showP r3 with
        | error q10 =>
          rw [hsh] at hm10
          obtain rfl := hm10
          unfold stuckE
          simp (config := { zetaDelta := true }) only []
          refine ⟨rfl, ?_⟩
          rw [← HPP.out, show stmtP V ts = .error _ by simp only [stmtP, ifHas, bindR, E1.out, E2.out, E3.out, hsh]; rfl]
          exact ⟨HI3.out.kp.then hk10, rfl⟩
        | ok xr =>
          obtain ⟨x, r10⟩ := xr
          rw [hsh] at hm10
          obtain ⟨rfl, hp10⟩ := hm10
          have HI10 := Lib.hid (HI3.out.step HPB.out hk10 hp10)
          have EW := Lib.hid hsh
          have HF := Lib.hid (show_form hsh)
          have HO := Lib.hid (show (stCells x vNil vNil vNil vNil).toArray.all (·.oneCell') = true from st_one rfl rfl rfl rfl)
          clear hsh hp10 hk10
          go_wp2_with (refine wpList_store_row (by rfl) 31 _ _ (by rfl) w.heap.size (stCells x vNil vNil vNil vNil).toArray (by rfl) (by rfl) 31 z17 HI10.out.rat info31s (by rfl) HO.out ?_)
          refine bodyPost_ret (results_cell_row rfl _ _ w.heap.size 31 (stCells x vNil vNil vNil vNil).toArray (0, 0) _ rfl (setRow_heap _ _ _ _ _ _ HI10.out.rat) Tryz.underlying31 (by rfl) info31s) rfl ?_
          rw [← HPP.out, show stmtP V ts = .ok (.mk x [], r10) by simp only [stmtP, ifHas, bindR, E1.out, E2.out, E3.out, EW.out]]
          exact HI10.out.fin HPB.out (.plain HF.out.1 HF.out.2.1 HF.out.2.2)
      · rw [e1] at hm3
        obtain rfl := hm3
        unfold stuckE
        simp (config := { zetaDelta := true }) only []
        refine ⟨rfl, ?_⟩
        rw [← HPP.out, show stmtP V ts = .error _ by simp only [stmtP, ifHas, E1.out, E2.out, e1]; rfl]
        exact ⟨HI2.out.kp.then hk3, rfl⟩
    · rw [e1] at hm2
      obtain ⟨rfl, hp2⟩ := hm2
      have HI2 := Lib.hid (HI1.out.step HPB.out hk2 hp2)
      have E2 := Lib.hid e1
      clear e1 hp2 hk2
      have HM11 := Lib.hid (has_42 P n 0 ⟨#[81, 85, 69, 82, 89]⟩ wQUERY [] words6.2.2.1 r2 W w2 HR.out.env (HW.out.trans (HI2.out.kp.below HW.out.size (fun k e => by show W.heap.size ≤ k; rw [e]; exact HWP.out))) HI2.out.pat)
      go_wp2_with fail
      refine HM11.out.mono ?_
      clear HM11
      rintro e w11 ⟨hk11, hm11⟩
      rcases has_any wQUERY [] r2 with e1 | ⟨r11, e1⟩ | ⟨q11, e1⟩
      · rw [e1] at hm11
        obtain ⟨rfl, hp11⟩ := hm11
        have HI11 := Lib.hid (HI2.out.step HPB.out hk11 hp11)
        have E11 := Lib.hid e1
        clear e1 hp11 hk11
        have HM12 := Lib.hid (must_45 P n 0 ⟨#[77, 69, 65, 83, 85, 82, 69, 77, 69, 78, 84]⟩ wMEASUREMENT [] words6.2.2.2.1 r2 W w11 HR.out.env (HW.out.trans (HI11.out.kp.below HW.out.size (fun k e => by show W.heap.size ≤ k; rw [e]; exact HWP.out))) HI11.out.pat)
        go_wp2_with fail
        refine HM12.out.mono ?_
        clear HM12
        rintro e w12 ⟨hk12, hm12⟩
        cases hta12 : takeAll [wMEASUREMENT] r2 with
        | error q12 =>
          simp only [mustR, hta12] at hm12
          obtain rfl := hm12
          unfold stuckE
          simp (config := { zetaDelta := true }) only []
          refine ⟨rfl, ?_⟩
          rw [← HPP.out, show stmtP V ts = .error _ by simp only [stmtP, ifHas, mustP, E1.out, E2.out, E11.out, hta12]; rfl]
          exact ⟨HI11.out.kp.then hk12, rfl⟩
        | ok r12 =>
          simp only [mustR, hta12] at hm12
          obtain ⟨rfl, hp12⟩ := hm12
          have HI12 := Lib.hid (HI11.out.step HPB.out hk12 hp12)
          have E12 := Lib.hid hta12
          clear hta12 hp12 hk12
          have HM13 := Lib.hid (name_43 P n 0 r12 W w12 HR.out.env (HW.out.trans (HI12.out.kp.below HW.out.size (fun k e => by show W.heap.size ≤ k; rw [e]; exact HWP.out))) HI12.out.pat)
          go_wp2_with fail
          refine HM13.out.mono ?_
          clear HM13
          rintro e w13 ⟨hk13, hm13⟩
          cases hnm13 : nameP r12 with
          | error q13 =>
            rw [hnm13] at hm13
            obtain rfl := hm13
            unfold stuckE
            simp (config := { zetaDelta := true }) only []
            refine ⟨rfl, ?_⟩
            rw [← HPP.out, show stmtP V ts = .error _ by simp only [stmtP, ifHas, mustP, bindR, E1.out, E2.out, E11.out, E12.out, hnm13]; rfl]
            exact ⟨HI12.out.kp.then hk13, rfl⟩
          | ok nr13 =>
            obtain ⟨nm13, r13⟩ := nr13
            rw [hnm13] at hm13
            obtain ⟨rfl, hp13⟩ := hm13
            have HI13 := Lib.hid (HI12.out.step HPB.out hk13 hp13)
            have E13 := Lib.hid hnm13
            clear hnm13 hp13 hk13
            go_wp2_with (refine wpList_store_row (by rfl) 31 _ _ (by rfl) w.heap.size (stCells { s0 with kind := 3, name := nm13 } vNil vNil vNil vNil).toArray (by rfl) (by rfl) 31 z17 HI13.out.rat info31s (by rfl) (st_one rfl rfl rfl rfl) ?_)
            refine bodyPost_ret (results_cell_row rfl _ _ w.heap.size 31 (stCells { s0 with kind := 3, name := nm13 } vNil vNil vNil vNil).toArray (0, 0) _ rfl (setRow_heap _ _ _ _ _ _ HI13.out.rat) Tryz.underlying31 (by rfl) info31s) rfl ?_
            rw [← HPP.out, show stmtP V ts = .ok (.mk { s0 with kind := 3, name := nm13 } [], r13) by simp only [stmtP, ifHas, mustP, bindR, E1.out, E2.out, E11.out, E12.out, E13.out]]
            exact HI13.out.fin HPB.out (.plain rfl rfl rfl)
      · rw [e1] at hm11
        obtain ⟨rfl, hp11⟩ := hm11
        have HI11 := Lib.hid (HI2.out.step HPB.out hk11 hp11)
        have E11 := Lib.hid e1
        clear e1 hp11 hk11
        have HM14 := Lib.hid (name_43 P n 0 r11 W w11 HR.out.env (HW.out.trans (HI11.out.kp.below HW.out.size (fun k e => by show W.heap.size ≤ k; rw [e]; exact HWP.out))) HI11.out.pat)
        go_wp2_with fail
        refine HM14.out.mono ?_
        clear HM14
        rintro e w14 ⟨hk14, hm14⟩
        cases hnm14 : nameP r11 with
        | error q14 =>
          rw [hnm14] at hm14
          obtain rfl := hm14
          unfold stuckE
          simp (config := { zetaDelta := true }) only []
          refine ⟨rfl, ?_⟩
          rw [← HPP.out, show stmtP V ts = .error _ by simp only [stmtP, ifHas, bindR, E1.out, E2.out, E11.out, hnm14]; rfl]
          exact ⟨HI11.out.kp.then hk14, rfl⟩
        | ok nr14 =>
          obtain ⟨nm14, r14⟩ := nr14
          rw [hnm14] at hm14
          obtain ⟨rfl, hp14⟩ := hm14
          have HI14 := Lib.hid (HI11.out.step HPB.out hk14 hp14)
          have E14 := Lib.hid hnm14
          clear hnm14 hp14 hk14
          go_wp2_with (refine wpList_store_row (by rfl) 31 _ _ (by rfl) w.heap.size (stCells { s0 with kind := 10, name := nm14 } vNil vNil vNil vNil).toArray (by rfl) (by rfl) 31 z17 HI14.out.rat info31s (by rfl) (st_one rfl rfl rfl rfl) ?_)
          refine bodyPost_ret (results_cell_row rfl _ _ w.heap.size 31 (stCells { s0 with kind := 10, name := nm14 } vNil vNil vNil vNil).toArray (0, 0) _ rfl (setRow_heap _ _ _ _ _ _ HI14.out.rat) Tryz.underlying31 (by rfl) info31s) rfl ?_
          rw [← HPP.out, show stmtP V ts = .ok (.mk { s0 with kind := 10, name := nm14 } [], r14) by simp only [stmtP, ifHas, bindR, E1.out, E2.out, E11.out, E14.out]]
          exact HI14.out.fin HPB.out (.plain rfl rfl rfl)
      · rw [e1] at hm11
        obtain rfl := hm11
        unfold stuckE
        simp (config := { zetaDelta := true }) only []
        refine ⟨rfl, ?_⟩
        rw [← HPP.out, show stmtP V ts = .error _ by simp only [stmtP, ifHas, E1.out, E2.out, e1]; rfl]
        exact ⟨HI2.out.kp.then hk11, rfl⟩
    · rw [e1] at hm2
      obtain rfl := hm2
      unfold stuckE
      simp (config := { zetaDelta := true }) only []
      refine ⟨rfl, ?_⟩
      rw [← HPP.out, show stmtP V ts = .error _ by simp only [stmtP, ifHas, E1.out, e1]; rfl]
      exact ⟨HI1.out.kp.then hk2, rfl⟩
  · rw [e1] at hm1
    obtain ⟨rfl, hp1⟩ := hm1
    have HI1 := Lib.hid (HI0.out.step HPB.out hk1 hp1)
    have E1 := Lib.hid e1
    clear e1 hp1 hk1
    have HM15 := Lib.hid (name_43 P n 0 r1 W w1 HR.out.env (HW.out.trans (HI1.out.kp.below HW.out.size (fun k e => by show W.heap.size ≤ k; rw [e]; exact HWP.out))) HI1.out.pat)
    go_wp2_with fail
    refine HM15.out.mono ?_
    clear HM15
    rintro e w15 ⟨hk15, hm15⟩
    cases hnm15 : nameP r1 with
    | error q15 =>
      rw [hnm15] at hm15
      obtain rfl := hm15
      unfold stuckE
      simp (config := { zetaDelta := true }) only []
      refine ⟨rfl, ?_⟩
      rw [← HPP.out, show stmtP V ts = .error _ by simp only [stmtP, ifHas, bindR, E1.out, hnm15]; rfl]
      exact ⟨HI1.out.kp.then hk15, rfl⟩
    | ok nr15 =>
      obtain ⟨nm15, r15⟩ := nr15
      rw [hnm15] at hm15
      obtain ⟨rfl, hp15⟩ := hm15
      have HI15 := Lib.hid (HI1.out.step HPB.out hk15 hp15)
      have E15 := Lib.hid hnm15
      clear hnm15 hp15 hk15
      have HX16 := Lib.hid (newest w15 (.cells (stCells { s0 with kind := 2, frm := nm15 } vNil vNil vNil vNil).toArray 31 (0, 0)))
      have HJ16 := Lib.hid (HI15.out.alloc HPB.out (.cells (stCells { s0 with kind := 2, frm := nm15 } vNil vNil vNil vNil).toArray 31 (0, 0)))
      have HWX := Lib.hid (lt_of_block HI15.out.rat)
      have HN16 : Hid (r15.length ≤ 70000) := Lib.hid (by have := name_len E15.out; have := has_len E1.out; have := HL.out; omega)
      have HM16 := Lib.hid (where_44 P n W HR.out HWP.out r15 (w15.alloc (.cells (stCells { s0 with kind := 2, frm := nm15 } vNil vNil vNil vNil).toArray 31 (0, 0))) HN16.out (HW.out.trans (HJ16.out.kp.below HW.out.size (fun k e => by show W.heap.size ≤ k; rw [e]; exact HWP.out))) HJ16.out.pat)
      go_wp2_with fail
      refine HM16.out.mono ?_
      clear HM16
      rintro e w16 ⟨hk16, hm16⟩
      cases hwh : whereP V r15 with
      | error q16 =>
        rw [hwh] at hm16
        obtain rfl := hm16
        unfold stuckE
        simp (config := { zetaDelta := true }) only []
        refine ⟨rfl, ?_⟩
        rw [← HPP.out, show stmtP V ts = .error _ by simp only [stmtP, ifHas, bindR, E1.out, E15.out, hwh]; rfl]
        exact ⟨HJ16.out.kp.then hk16, rfl⟩
      | ok lr =>
        obtain ⟨l, r16⟩ := lr
        rw [hwh] at hm16
        obtain ⟨v, rfl, hv, hp16⟩ := hm16
        obtain ⟨sa, sc, rfl⟩ := cds_slice hv
        have HI16 := Lib.hid (HJ16.out.step HPB.out hk16 hp16)
        have hx := (hk16.block w15.heap.size (lt_of_block HX16.out) (by show ¬ w15.heap.size = P; have := HPB.out; have := HWX.out; omega)).trans HX16.out
        have d5 : w16.cell? ⟨w15.heap.size, 5, none⟩ = some (.slice none 0 0) := Lib.cell_of_heap hx 5
        have f5 : w16.frozen? ⟨w15.heap.size, 5, none⟩ = false := Lib.frozen_of_heap hx 5
        have HX5 := Lib.hid (show (w16.setCell ⟨w15.heap.size, 5, none⟩ (.slice sa l.length sc)).heap[w15.heap.size]? = some (.cells (stCells { s0 with kind := 2, frm := nm15, whr := l } vNil (.slice sa l.length sc) vNil vNil).toArray 31 (0, 0)) from heap_setCell_same _ _ _ _ _ _ hx)
        have HI5 := Lib.hid (HI16.out.far HPB.out (p := ⟨w15.heap.size, 5, none⟩) (by show w.heap.size < w15.heap.size; exact HWX.out) (.slice sa l.length sc))
        have HV := Lib.hid (hv.keep (D' := fun k => w.heap.size ≤ k ∧ k ≠ w.heap.size) (w' := w16.setCell ⟨w15.heap.size, 5, none⟩ (.slice sa l.length sc)) fun k (h1 : (w15.alloc (.cells (stCells { s0 with kind := 2, frm := nm15 } vNil vNil vNil vNil).toArray 31 (0, 0))).heap.size ≤ k) _ => ⟨heap_setCell_other _ _ _ _ (by show k ≠ w15.heap.size; have := alloc_size w15 (.cells (stCells { s0 with kind := 2, frm := nm15 } vNil vNil vNil vNil).toArray 31 (0, 0)); omega), by have := alloc_size w15 (.cells (stCells { s0 with kind := 2, frm := nm15 } vNil vNil vNil vNil).toArray 31 (0, 0)); have := HWX.out; omega, by have := alloc_size w15 (.cells (stCells { s0 with kind := 2, frm := nm15 } vNil vNil vNil vNil).toArray 31 (0, 0)); have := HWX.out; omega⟩)
        have EW := Lib.hid hwh
        have HO := Lib.hid (show (stCells { s0 with kind := 2, frm := nm15, whr := l } vNil (.slice sa l.length sc) vNil vNil).toArray.all (·.oneCell') = true from st_one rfl rfl rfl rfl)
        clear hwh hv hp16 hk16 hx
        go_wp2_with (first
          | (refine wpList_load_row (by rfl) 31 _ (by rfl) w15.heap.size (by rfl) 31 (stCells { s0 with kind := 2, frm := nm15, whr := l } vNil (.slice sa l.length sc) vNil vNil).toArray (0, 0) _ HX5.out Tryz.underlying31 (by rfl) info31s ?_)
          | (refine wpList_store_row (by rfl) 31 _ _ (by rfl) w.heap.size (stCells { s0 with kind := 2, frm := nm15, whr := l } vNil (.slice sa l.length sc) vNil vNil).toArray (by rfl) (by rfl) 31 z17 HI5.out.rat info31s (by rfl) HO.out ?_))
        refine bodyPost_ret (results_cell_row rfl _ _ w.heap.size 31 (stCells { s0 with kind := 2, frm := nm15, whr := l } vNil (.slice sa l.length sc) vNil vNil).toArray (0, 0) _ rfl (setRow_heap _ _ _ _ _ _ HI5.out.rat) Tryz.underlying31 (by rfl) info31s) rfl ?_
        rw [← HPP.out, show stmtP V ts = .ok (.mk { s0 with kind := 2, frm := nm15, whr := l } [], r16) by simp only [stmtP, ifHas, bindR, E1.out, E15.out, EW.out]]
        exact HI5.out.fin HPB.out (.rows (World.ownsRow_nil _ _ _ _) HV.out (World.ownsRow_nil _ _ _ _))
  · rw [e1] at hm1
    obtain rfl := hm1
    unfold stuckE
    simp (config := { zetaDelta := true }) only []
    refine ⟨rfl, ?_⟩
    rw [← HPP.out, show stmtP V ts = .error _ by simp only [stmtP, ifHas, e1]; rfl]
    exact ⟨HI0.out.kp.then hk1, rfl⟩
end Go.Proofs.YtigicmnngppipaaGreatDoor.Tp
