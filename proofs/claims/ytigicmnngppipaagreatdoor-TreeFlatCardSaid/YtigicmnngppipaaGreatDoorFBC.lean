/- Items are taken. Conditions: what ParseInt and the reader of values answer. -/
import Derived.Test.YtigicmnngppipaaGreatDoorFBB
import Derived.Deep.RegionHeld3
import Derived.Deep.RegionLaw
import Derived.Deep.RegionWith
import Derived.Deep.CutRange
import Derived.BigQuiet
import Derived.Deep.QuietTactic
namespace Go.Proofs.YtigicmnngppipaaGreatDoor.Tp
open Go.RowKit Lx
set_option maxRecDepth 100000
theorem info83 : ((Tryz.prog.info? 83).map fun i => (i.zero, i.size, i.bytes)) = some (some (.agg #[.string ⟨#[]⟩, .string ⟨#[]⟩]), 2, 32) := by kernel_rfl
theorem words4 : Words ⟨#[42]⟩ [wStar] := ⟨by decide, by decide, by decide, by decide⟩
theorem wp_gen {P : Program} {c : Code} {Q : Exit → Act → World → Prop} {a : Act} {W : World} (R : World → Prop) (h : R W) (k : ∀ w, R w → Code.wp P c Q a w) : Code.wp P c Q a W := k W h
theorem own_far {w : World} {B e size n : Nat} {v : Value} {xs : List Value} (h : w.ownsRow B e size v n xs) {p : Addr} (hp : v.ownBlock ≠ some p.block) (u : Value) : (w.setCell p u).ownsRow B e size v n xs := by
  refine ⟨h.1, ?_⟩
  rcases h.2 with hn | ⟨g, cap, cur, rfl, hb, hg, r⟩
  · exact .inl hn
  · exact .inr ⟨g, cap, cur, rfl, hb, (heap_setCell_other _ _ _ _ (fun e => hp (by rw [← e]; rfl))).trans hg, r⟩
/-- Ahead of an item's append. -/
structure ItA (P X n I : Nat) (w : World) (va : Option Addr) (vc : Nat) (acc : List (ByteArray × ByteArray)) (fn nm : ByteArray) (r : List Tok) (wA : World) : Prop where
  kp : Kp (K2 P X) w wA
  pat : PAt wA P r n 0
  xat : wA.heap[X]? = some (.cells (XI false (.slice va acc.length vc)) 31 (0, 0))
  own : wA.ownsRow w.heap.size 83 2 (.slice va acc.length vc) acc.length (itemCells acc)
  it : wA.heap[I]? = some (.cells #[.string fn, .string nm] 83 (0, 0))
theorem ItA.of {P X n I m : Nat} {w wr w7 : World} {ts q r : List Tok} {va : Option Addr} {vc : Nat} {acc : List (ByteArray × ByteArray)} {f0 n0 nm : ByteArray} (h : InI P X n w ts wr m acc q (.slice va acc.length vc)) (hI : I = wr.heap.size) (hk : Kp (· = P) wr w7) (hP : P < w.heap.size) (hPX : P < X) (hX : X < w.heap.size) (hp : PAt w7 P r n 0) (hi : w7.heap[I]? = some (.cells #[.string f0, .string n0] 83 (0, 0))) : ItA P X n I w va vc acc f0 nm r (w7.setCell ⟨I, 1, none⟩ (.string nm)) := by
  have hsz := h.kp.size
  subst hI
  refine ⟨(h.kp.then hk.two).set (p := ⟨wr.heap.size, 1, none⟩) (.inr hsz) _, hp.set (p := ⟨wr.heap.size, 1, none⟩) (by show P < wr.heap.size; omega) _, ?_, ?_, ?_⟩
  · exact (heap_setCell_other _ _ _ _ (by show X ≠ wr.heap.size; omega)).trans ((hk.block X (by omega) (by show ¬ X = P; omega)).trans h.xat)
  · exact own_far (owns_kp h.own hk hP) (fun e => by have := (h.own.lt _ e).2; simp at this) _
  · rw [heap_setCell_same _ _ _ _ _ _ hi]; rfl
/-- Behind an item's append. -/
structure ItB (P X n : Nat) (w : World) (acc : List (ByteArray × ByteArray)) (r : List Tok) (w' : World) : Prop where
  kp : Kp (K2 P X) w w'
  pat : PAt w' P r n 0
  xat : ∃ vi, w'.heap[X]? = some (.cells (XI false vi) 31 (0, 0)) ∧ w'.ownsRow w.heap.size 83 2 vi acc.length (itemCells acc)
theorem ItB.keep {P X n : Nat} {w w' w9 : World} {acc : List (ByteArray × ByteArray)} {r : List Tok} (h : ItB P X n w acc r w') (hk : Kp (· = P) w' w9) (hP : P < w.heap.size) (hPX : P < X) : Kp (K2 P X) w w9 ∧ True ∧ ∃ vi, w9.heap[X]? = some (.cells (XI false vi) 31 (0, 0)) ∧ w9.ownsRow w.heap.size 83 2 vi acc.length (itemCells acc) := by
  obtain ⟨vi, h1, h2⟩ := h.xat
  exact ⟨h.kp.then hk.two, trivial, vi, (hk.block X (lt_of_block h1) (by show ¬ X = P; omega)).trans h1, owns_kp h2 hk hP⟩
theorem ItB.of {P X n I : Nat} {w wA w6 : World} {va : Option Addr} {vc g cap : Nat} {acc : List (ByteArray × ByteArray)} {fn nm : ByteArray} {r : List Tok} {o : Obj} (h : ItA P X n I w va vc acc fn nm r wA) (hPX : P < X) (hX : X < w.heap.size)
    (hown : w6.ownsRow w.heap.size 83 2 (.slice (some ⟨g, 0, none⟩) (acc.length + 1) cap) (acc.length + 1) (itemCells acc ++ [.string fn, .string nm])) (hgr : ((wA.alloc o).drew).grownBy w6 (Value.slice va acc.length vc).ownBlock) : ItB P X n w (acc ++ [(fn, nm)]) r (w6.setCell ⟨X, 2, none⟩ (.slice (some ⟨g, 0, none⟩) (acc.length + 1) cap)) := by
  have hb : Below wA.heap.size wA (wA.alloc o).drew := ((Below.refl _ _).alloc (Nat.le_refl _) o).drew
  have hk6 := (h.kp.then (Kp.of hb)).grown hgr fun k e => .inr (h.own.lt k e).1
  have hp6 := (h.pat.later hb).keep (S := fun k => (Value.slice va acc.length vc).ownBlock = some k) ((Kp.refl _ _).grown hgr (fun k e => .inl e)) (fun k hk e => by have := (h.own.lt k e).1; omega)
  have hX6 := (hgr.block X (Nat.lt_of_lt_of_le (lt_of_block h.xat) hb.size) (own_ne h.own hX)).trans ((hb.block X (lt_of_block h.xat)).trans h.xat)
  refine ⟨hk6.set (p := ⟨X, 2, none⟩) (.inl (.inr rfl)) _, hp6.set (p := ⟨X, 2, none⟩) hPX _, _, heap_setCell_same _ _ _ _ _ _ hX6, ?_⟩
  rw [List.length_append, items_snoc]
  exact ownsRow_setCell_below hown (a := ⟨X, 2, none⟩) hX _
theorem funcs_ex (W w : World) (hE : Env W) (hW : Below W.heap.size W w) : Calls Tryz.prog 113 #[] w fun e w' => ∃ ad, e = .returned (.slice ad fns.length fns.length) ∧ Below w.heap.size w w' ∧ StrsAt w' ad fns :=
  (funcs_113 W w hE hW).mono fun _ _ h => ⟨_, h.1, h.2.1, h.2.2⟩
theorem ItA.of2 {P X n I m : Nat} {w wr w7 : World} {ts q r : List Tok} {va : Option Addr} {vc : Nat} {acc : List (ByteArray × ByteArray)} {f0 n0 fn nm : ByteArray} (h : InI P X n w ts wr m acc q (.slice va acc.length vc)) (hI : I = wr.heap.size) (hk : Kp (· = P) wr w7) (hP : P < w.heap.size) (hPX : P < X) (hX : X < w.heap.size) (hp : PAt w7 P r n 0) (hi : w7.heap[I]? = some (.cells #[.string f0, .string n0] 83 (0, 0))) : ItA P X n I w va vc acc fn nm r ((w7.setCell ⟨I, 0, none⟩ (.string fn)).setCell ⟨I, 1, none⟩ (.string nm)) := by
  have hsz := h.kp.size
  subst hI
  have h1 : (w7.setCell ⟨wr.heap.size, 0, none⟩ (.string fn)).heap[wr.heap.size]? = some (.cells #[.string fn, .string n0] 83 (0, 0)) := heap_setCell_same _ _ _ _ _ _ hi
  have hne : ∀ u : Addr, u.block = wr.heap.size → (Value.slice va acc.length vc).ownBlock ≠ some u.block := fun u hu e => by have := (h.own.lt _ e).2; omega
  refine ⟨((h.kp.then hk.two).set (p := ⟨wr.heap.size, 0, none⟩) (.inr hsz) _).set (p := ⟨wr.heap.size, 1, none⟩) (.inr hsz) _, (hp.set (p := ⟨wr.heap.size, 0, none⟩) (by show P < wr.heap.size; omega) _).set (p := ⟨wr.heap.size, 1, none⟩) (by show P < wr.heap.size; omega) _, ?_, ?_, ?_⟩
  · exact (heap_setCell_other _ _ _ _ (by show X ≠ wr.heap.size; omega)).trans ((heap_setCell_other _ _ _ _ (by show X ≠ wr.heap.size; omega)).trans ((hk.block X (by omega) (by show ¬ X = P; omega)).trans h.xat))
  · exact own_far (own_far (owns_kp h.own hk hP) (hne _ rfl) _) (hne _ rfl) _
  · rw [heap_setCell_same _ _ _ _ _ _ h1]; rfl
theorem ItA.keep {P X n I : Nat} {w wA w9 : World} {va : Option Addr} {vc : Nat} {acc : List (ByteArray × ByteArray)} {fn nm : ByteArray} {r r' : List Tok} (h : ItA P X n I w va vc acc fn nm r wA) (hk : Kp (· = P) wA w9) (hP : P < w.heap.size) (hPX : P < X) (hI : I ≠ P) (hp : PAt w9 P r' n 0) : ItA P X n I w va vc acc fn nm r' w9 :=
  ⟨h.kp.then hk.two, hp, (hk.block X (lt_of_block h.xat) (by show ¬ X = P; omega)).trans h.xat, owns_kp h.own hk hP, (hk.block I (lt_of_block h.it) (by show ¬ I = P; exact hI)).trans h.it⟩
set_option maxHeartbeats 8000000 in
theorem items_76 (P X n : Nat) (x : S0) (hxa : x.all = false) (hxi : x.items = []) {V : List UInt8 → Value × Int} (W : World) (hR : Rd V W) (hWP : W.heap.size ≤ P) (hPX : P < X) (ts : List Tok) (w : World) (hW : Below W.heap.size W w) (hP : PAt w P ts n 0)
    (hX : w.heap[X]? = some (.cells (XI false (.slice none 0 0)) 31 (0, 0))) :
    Calls Tryz.prog 76 #[.pointer (some ⟨P, 0, none⟩), .pointer (some ⟨X, 0, none⟩)] w (ItOut P X n w x (itemsP x ts)) := by
  obtain ⟨i0, hi, hz0, hz1, hz2⟩ := info_parts info83
  have HI := Lib.hid hi
  have HZ0 := Lib.hid hz0
  have HZ1 := Lib.hid hz1
  have HZ2 := Lib.hid hz2
  obtain ⟨PP, hPP⟩ : ∃ PP, ItOut P X n w x (itemsP x ts) = PP := ⟨_, rfl⟩
  rw [hPP]
  have HPP := Lib.hid hPP
  have HR := Lib.hid hR
  have HW := Lib.hid hW
  have HWP := Lib.hid hWP
  have HPX := Lib.hid hPX
  have HPB := Lib.hid hP.lt
  have HXB := Lib.hid (lt_of_block hX)
  have HX0 := Lib.hid hX
  have HXAL := Lib.hid hxa
  have HXI := Lib.hid hxi
  have HM := Lib.hid (has_42 P n 0 ⟨#[42]⟩ wStar [] words4 ts W w hR.env hW hP)
  clear hi hz0 hz1 hz2 hPP hR hW hWP hPX hP hX hxa hxi
  go_enter Tryz.func76, Tryz.ntmps76
  go_wp2_with fail
  refine HM.out.mono ?_
  clear HM
  rintro e w1 ⟨hk1, hm1⟩
  have HX1 := Lib.hid ((hk1.block X HXB.out (by show ¬ X = P; have := HPX.out; omega)).trans HX0.out)
  have HK1 : Hid (Kp (K2 P X) w w1) := Lib.hid hk1.two
  clear hk1
  rcases has_one wStar ts with ⟨e1, e2⟩ | ⟨t0, r, e0, e1, e2⟩
  · rw [e1] at hm1
    obtain ⟨rfl, hp1⟩ := hm1
    have HST := Lib.hid e1
    have HIN0 : Hid (InI P X n w ts w1 9 [] ts (.slice none 0 0)) := Lib.hid ⟨HK1.out, hp1, HX1.out, World.ownsRow_nil _ _ _ _, rfl, rfl, Nat.zero_le _⟩
    clear e1 e2 hp1
    go_wp2_with fail
    go_loopw [4] (fun _ wr => ∃ m acc q vi, InI P X n w ts wr m acc q vi) (fun _ wr => lenAt P wr)
    case atStart => exact ⟨_, _, _, _, HIN0.out⟩
    case round =>
      obtain ⟨m, acc, q, vi, hin⟩ := hrel
      obtain ⟨m, rfl⟩ := hin.pos
      obtain ⟨va, vc, rfl⟩ := item_form hin.own
      have HIN := Lib.hid hin
      clear hin
      have HLA := Lib.hid (len_at HIN.out.pat)
      have x2 : wr.cell? ⟨X, 2, none⟩ = some (.slice va acc.length vc) := Lib.cell_of_heap HIN.out.xat 2
      by_cases h8 : acc.length = 8
      · have h8b : ((acc.length : Int) == 8) = true := by simp; omega
        have HBAD := Lib.hid (items_full (m := m) (q := q) h8)
        clear h8
        go_wp2_with fail
        refine (wrong_24 P n 0 q _ HIN.out.pat).mono ?_
        rintro e w7 ⟨rfl, rfl⟩
        unfold stuckE
        simp (config := { zetaDelta := true }) only [Exit.inBlock, Exit.then]
        refine ⟨rfl, ?_⟩
        rw [← HPP.out]
        exact HIN.out.bad HST.out HBAD.out HIN.out.kp
      · have h8b : ((acc.length : Int) == 8) = false := by simp; omega
        have HN8 := Lib.hid h8
        have hb4 : Below wr.heap.size wr (wr.alloc (.cells #[.string ⟨#[]⟩, .string ⟨#[]⟩] 83 (0, 0))) := (Below.refl _ _).alloc (Nat.le_refl _) _
        have HI4 := Lib.hid (newest wr (.cells #[.string ⟨#[]⟩, .string ⟨#[]⟩] 83 (0, 0)))
        have HB4 := Lib.hid hb4
        have M71 := Lib.hid (peek_71 P n 0 q _ (HIN.out.pat.later hb4))
        have hip := itemP_eq q
        obtain ⟨⟨kd, tx, at_⟩, ht⟩ : ∃ t, hdT q = t := ⟨_, rfl⟩
        rw [ht] at M71 hip
        unfold tokV at M71
        have HIP := Lib.hid hip
        have HT := Lib.hid ht
        clear h8 hb4 hip ht
        go_wp2_with fail
        refine M71.out.mono ?_
        clear M71
        rintro e w5 ⟨rfl, hb5⟩
        have hb55 : Below wr.heap.size wr (w5.alloc (.cells #[.int .i64 kd, .string tx, .int .i64 at_] 96 (0, 0))) := (HB4.out.trans (hb5.mono HB4.out.size)).alloc (HB4.out.trans (hb5.mono HB4.out.size)).size _
        have HB5 := Lib.hid hb55
        have HI5 := Lib.hid ((Below.heap_alloc w5 (.cells #[.int .i64 kd, .string tx, .int .i64 at_] 96 (0, 0)) _ (Nat.lt_of_lt_of_le (lt_of_block HI4.out) hb5.size)).trans ((hb5.block _ (lt_of_block HI4.out)).trans HI4.out))
        have HT5 := Lib.hid (newest w5 (.cells #[.int .i64 kd, .string tx, .int .i64 at_] 96 (0, 0)))
        have HS5 := Lib.hid (Nat.lt_of_lt_of_le (lt_of_block HI4.out) hb5.size)
        obtain ⟨w6, hw6⟩ : ∃ w6, w5.alloc (.cells #[.int .i64 kd, .string tx, .int .i64 at_] 96 (0, 0)) = w6 := ⟨_, rfl⟩
        clear hb5 hb55 x2 h8b
        by_cases hk1 : kd = 1
        · subst hk1
          have t1 : (w5.alloc (.cells #[.int .i64 1, .string tx, .int .i64 at_] 96 (0, 0))).cell? ⟨w5.heap.size, 1, none⟩ = some (.string tx) := Lib.cell_of_heap HT5.out 1
          have hBD : ∀ w', w' = (w5.alloc (.cells #[.int .i64 1, .string tx, .int .i64 at_] 96 (0, 0))).drew → Below W.heap.size W w' := fun w' e => by rw [e]; exact (HW.out.trans ((HIN.out.kp.then (Kp.of HB5.out)).below HW.out.size (fun k e => by rcases e with e | e <;> (have := HWP.out; have := HPX.out; omega)))).drew
          have HBD := Lib.hid (hBD _ rfl)
          clear hw6 hBD
          have t0 : (w5.alloc (.cells #[.int .i64 1, .string tx, .int .i64 at_] 96 (0, 0))).cell? ⟨w5.heap.size, 0, none⟩ = some (.int .i64 1) := Lib.cell_of_heap HT5.out 0
          go_upto_region 6 with (fail)
          go_cut [29] from 11 to 57 (fun b w' => b = .bool (inL fns tx) ∧ Below wr.heap.size wr w' ∧ w'.heap[wr.heap.size]? = some (.cells #[.string ⟨#[]⟩, .string ⟨#[]⟩] 83 (0, 0)) ∧ w'.heap[w5.heap.size]? = some (.cells #[.int .i64 1, .string tx, .int .i64 at_] 96 (0, 0)))
          case first =>
            go_region_law (first
              | (go_simp; go_at_call 113; refine (funcs_ex W _ HR.out.env HBD.out).mono ?_; rintro e wf ⟨ad, rfl, hbf, hsf⟩; have hT := (hbf.block w5.heap.size (by simp)).trans HT5.out; have tf0 : wf.cell? ⟨w5.heap.size, 0, none⟩ = some (.int .i64 1) := Lib.cell_of_heap hT 0; have tf1 : wf.cell? ⟨w5.heap.size, 1, none⟩ = some (.string tx) := Lib.cell_of_heap hT 1)
              | (go_simp; go_at_call 112; refine (contains_112 ad _ fns tx _ (by decide) hsf).mono ?_; rintro e wg ⟨rfl, hwg⟩; subst hwg))
            all_goals
              go_wp2_with fail
              go_meet
              exact ⟨rfl, HB5.out.drew.trans (hbf.mono HB5.out.size), (hbf.block wr.heap.size (lt_of_block HI5.out)).trans HI5.out, hT⟩
          case rest =>
            obtain ⟨rfl, hbc, hIc, hTc⟩ := hcut
            have HKQ := Lib.hid hbc
            have HIQ := Lib.hid hIc
            have HTQ := Lib.hid hTc
            clear hbc hIc hTc t0 t1
            cases hfn : inL fns tx with
            | true =>
              have HFN := Lib.hid hfn
              have htk : tokIs tx (1, tx, at_) = true := by unfold tokIs; simp
              have HIF := Lib.hid (HIP.out.trans (if_pos (by unfold isFn; simp [hfn])))
              have hsz := (hd_sz HIN.out.pat).1
              rw [HT.out] at hsz
              obtain ⟨r0, hr0⟩ := hd_cons HT.out (by show (1 : Int) ≠ 0; decide)
              have hmr : mustR [tx, wOpen] q = mustR [wOpen] r0 := by rw [hr0]; unfold mustR; rw [takeAll_cons, if_pos htk]
              have HM7 := Lib.hid (must_45 P n 0 (tx ++ ⟨#[32, 40]⟩) tx [wOpen] (fn_words hfn) q W wc HR.out.env (HW.out.trans ((HIN.out.kp.then (Kp.of HKQ.out)).below HW.out.size (fun k e => by rcases e with e | e <;> (have := HWP.out; have := HPX.out; omega)))) (HIN.out.pat.later HKQ.out))
              rw [hmr] at HM7
              have HR0 := Lib.hid hr0
              have t1 : wc.cell? ⟨w5.heap.size, 1, none⟩ = some (.string tx) := Lib.cell_of_heap HTQ.out 1
              have hs1 : ¬ 9223372036854775807 < tx.size + 2 := by simp only at hsz; omega
              have hs2 : ¬ 9223372036854775807 < (tx ++ ⟨#[32, 40]⟩ : ByteArray).size := by rw [ByteArray.size_append]; exact hs1
              clear hfn htk hmr hr0 hsz
              go_wp2_with fail
              refine HM7.out.mono ?_
              clear HM7
              rintro e w7 ⟨hk7, hm7⟩
              have HK7 := Lib.hid ((Kp.of (S := (· = P)) HKQ.out).then hk7)
              have HI7 := Lib.hid ((hk7.block wr.heap.size (lt_of_block HIQ.out) (by show ¬ wr.heap.size = P; have := HPB.out; have := HIN.out.kp.size; omega)).trans HIQ.out)
              have HT7 := Lib.hid ((hk7.block w5.heap.size (lt_of_block HTQ.out) (by show ¬ w5.heap.size = P; have := HPB.out; have := HIN.out.kp.size; have := HS5.out; omega)).trans HTQ.out)
              clear hk7 t1
              cases hta : takeAll [wOpen] r0 with
              | error q' =>
                simp only [mustR, hta] at hm7
                obtain rfl := hm7
                have HBAD := Lib.hid (items_err (m := m) HN8.out (HIF.out.trans (by rw [HR0.out]; simp only [mustP, List.tail_cons, hta]; rfl)))
                unfold stuckE
                simp (config := { zetaDelta := true }) only [Exit.inBlock, Exit.then]
                refine ⟨rfl, ?_⟩
                rw [← HPP.out]
                exact HIN.out.bad HST.out HBAD.out (HIN.out.kp.then HK7.out.two)
              | ok r1 =>
                simp only [mustR, hta] at hm7
                obtain ⟨rfl, hp7⟩ := hm7
                have HQ7 := Lib.hid hp7
                have HTA := Lib.hid hta
                have HMN := Lib.hid (name_43 P n 0 r1 W w7.drew HR.out.env ((HW.out.trans ((HIN.out.kp.then HK7.out.two).below HW.out.size (fun k e => by rcases e with e | e <;> (have := HWP.out; have := HPX.out; omega))))).drew (hp7.later (Below.refl _ _).drew))
                clear hta hp7
                have t1 : w7.cell? ⟨w5.heap.size, 1, none⟩ = some (.string tx) := Lib.cell_of_heap HT7.out 1
                have i0' : w7.cell? ⟨wr.heap.size, 0, none⟩ = some (.string ⟨#[]⟩) := Lib.cell_of_heap HI7.out 0
                go_upto_region 8 with (fail)
                cases hnm : nameP r1 with
                | error q2 =>
                  rw [hnm] at HMN
                  have HBAD := Lib.hid (items_err (m := m) HN8.out (HIF.out.trans (by rw [HR0.out]; simp only [mustP, bindR, List.tail_cons, HTA.out, hnm]; rfl)))
                  clear hnm
                  refine wp_region_any (by kernel_rfl) ?_
                  try (change wpAny _ _ _ _ _ _ _ (World.drew _))
                  refine wpAny_take (i := 0) (v := .pointer (some ⟨w5.heap.size, 1, none⟩)) rfl (by kernel_rfl) (by kernel_rfl) (by kernel_rfl) (fun _ _ _ h => h) (Or.inl ⟨by rfl, by intro w; go_simp⟩) ?_
                  refine wpAny_take (i := 2) (v := .pointer (some ⟨P, 0, none⟩)) rfl (by kernel_rfl) (by kernel_rfl) (by kernel_rfl) (fun _ _ _ h => h) (Or.inl ⟨by rfl, by intro w; go_simp⟩) ?_
                  refine wpAny_ready (rs := [1, 3]) (by kernel_rfl) (by simp) ?_
                  refine AllReady.cons rfl (fun K hK => ?_) ?_
                  · go_simp
                    refine hK _ _ ?_
                    clear hK K
                    refine wpAny_ready (rs := [3]) (by kernel_rfl) (by simp) ?_
                    refine AllReady.cons rfl (fun K hK => ?_) AllReady.nil
                    go_simp
                    go_at_call 43
                    refine HMN.out.mono ?_
                    rintro e w8 ⟨hk8, hm8⟩
                    obtain rfl := hm8
                    unfold stuckE
                    simp (config := { zetaDelta := true }) only [Exit.inBlock, Exit.then]
                    refine ⟨rfl, ?_⟩
                    rw [← HPP.out]
                    exact HIN.out.bad HST.out HBAD.out (HIN.out.kp.then (HK7.out.drew.then hk8).two)
                  · refine AllReady.cons rfl (fun K hK => ?_) AllReady.nil
                    go_simp
                    go_at_call 43
                    refine HMN.out.mono ?_
                    rintro e w8 ⟨hk8, hm8⟩
                    obtain rfl := hm8
                    unfold stuckE
                    simp (config := { zetaDelta := true }) only [Exit.inBlock, Exit.then]
                    refine ⟨rfl, ?_⟩
                    rw [← HPP.out]
                    exact HIN.out.bad HST.out HBAD.out (HIN.out.kp.then (HK7.out.drew.then hk8).two)
                | ok nr =>
                  obtain ⟨nm, r2⟩ := nr
                  rw [hnm] at HMN
                  have HNM := Lib.hid hnm
                  clear hnm
                  go_cut [39] from 11 to 57 (fun _ w' => ItA P X n wr.heap.size w va vc acc tx nm r2 w')
                  case first =>
                    go_region_law (first
                      | (go_simp; go_at_call 43; refine HMN.out.mono ?_; rintro e w8 ⟨hk8, rfl, hp8⟩; have hT8 := (hk8.block w5.heap.size (lt_of_block HT7.out) (by show ¬ w5.heap.size = P; have := HPB.out; have := HIN.out.kp.size; have := HS5.out; omega)).trans HT7.out; have hI8 := (hk8.block wr.heap.size (lt_of_block HI7.out) (by show ¬ wr.heap.size = P; have := HPB.out; have := HIN.out.kp.size; omega)).trans HI7.out; have u1 : w8.cell? ⟨w5.heap.size, 1, none⟩ = some (.string tx) := Lib.cell_of_heap hT8 1; have v0 : w8.cell? ⟨wr.heap.size, 0, none⟩ = some (.string ⟨#[]⟩) := Lib.cell_of_heap hI8 0; have v1 : w8.cell? ⟨wr.heap.size, 1, none⟩ = some (.string ⟨#[]⟩) := Lib.cell_of_heap hI8 1; have g0 : w8.frozen? ⟨wr.heap.size, 0, none⟩ = false := Lib.frozen_of_heap hI8 0; have g1 : w8.frozen? ⟨wr.heap.size, 1, none⟩ = false := Lib.frozen_of_heap hI8 1))
                    all_goals
                      go_wp2_with fail
                      go_meet
                      exact ItA.of2 HIN.out rfl (HK7.out.drew.then hk8) HPB.out HPX.out HXB.out hp8 hI8
                  case rest =>
                    have HA8 := Lib.hid hcut
                    clear hcut t1 i0'
                    have HMC := Lib.hid (must_45 P n 0 ⟨#[41]⟩ wClose [] words1.2.2.2.1 r2 W _ HR.out.env (HW.out.trans (HA8.out.kp.below HW.out.size (fun k e => by rcases e with e | e <;> (have := HWP.out; have := HPX.out; omega)))) HA8.out.pat)
                    go_wp2_with fail
                    refine HMC.out.mono ?_
                    clear HMC
                    rintro e w9 ⟨hk9, hm9⟩
                    have HK9 := Lib.hid hk9
                    clear hk9
                    cases htc : takeAll [wClose] r2 with
                    | error q3 =>
                      simp only [mustR, htc] at hm9
                      obtain rfl := hm9
                      have HBAD := Lib.hid (items_err (m := m) HN8.out (HIF.out.trans (by rw [HR0.out]; simp only [mustP, bindR, List.tail_cons, HTA.out, HNM.out, htc]; rfl)))
                      unfold stuckE
                      simp (config := { zetaDelta := true }) only [Exit.inBlock, Exit.then]
                      refine ⟨rfl, ?_⟩
                      rw [← HPP.out]
                      exact HIN.out.bad HST.out HBAD.out (HA8.out.kp.then HK9.out.two)
                    | ok r =>
                      simp only [mustR, htc] at hm9
                      obtain ⟨rfl, hp9⟩ := hm9
                      have HOK := Lib.hid (show itemP q = .ok ((tx, nm), r) from HIF.out.trans (by rw [HR0.out]; simp only [mustP, bindR, List.tail_cons, HTA.out, HNM.out, htc]))
                      have HA0 := Lib.hid (HA8.out.keep HK9.out HPB.out HPX.out (by have := HPB.out; have := HIN.out.kp.size; omega) hp9)
                      have HQL : Hid (r.length ≤ q.length) := Lib.hid (by have := takeAll_len htc; have := name_len HNM.out; have := takeAll_len HTA.out; rw [HR0.out]; simp at *; omega)
                      clear htc hp9
                      go_upto_region 11 with (fail)
                      refine wp_gen (fun wA => ItA P X n wr.heap.size w va vc acc tx nm r wA) HA0.out ?_
                      intro wA hA
                      have HA := Lib.hid hA
                      clear hA
                      have x2 : wA.cell? ⟨X, 2, none⟩ = some (.slice va acc.length vc) := Lib.cell_of_heap HA.out.xat 2
                      have y2 : wA.frozen? ⟨X, 2, none⟩ = false := Lib.frozen_of_heap HA.out.xat 2
                      have i0' : wA.cell? ⟨wr.heap.size, 0, none⟩ = some (.string tx) := Lib.cell_of_heap HA.out.it 0
                      have i1' : wA.cell? ⟨wr.heap.size, 1, none⟩ = some (.string nm) := Lib.cell_of_heap HA.out.it 1
                      have hXA : X < wA.heap.size := lt_of_block HA.out.xat
                      have hIA : wr.heap.size < wA.heap.size := lt_of_block HA.out.it
                      have x2a : ∀ o, (wA.alloc o).cell? ⟨X, 2, none⟩ = some (.slice va acc.length vc) := fun o => Lib.cell_of_heap ((Below.heap_alloc wA o X hXA).trans HA.out.xat) 2
                      have y2a : ∀ o, (wA.alloc o).frozen? ⟨X, 2, none⟩ = false := fun o => Lib.frozen_of_heap ((Below.heap_alloc wA o X hXA).trans HA.out.xat) 2
                      have i0a : ∀ o, (wA.alloc o).cell? ⟨wr.heap.size, 0, none⟩ = some (.string tx) := fun o => Lib.cell_of_heap ((Below.heap_alloc wA o _ hIA).trans HA.out.it) 0
                      have i1a : ∀ o, (wA.alloc o).cell? ⟨wr.heap.size, 1, none⟩ = some (.string nm) := fun o => Lib.cell_of_heap ((Below.heap_alloc wA o _ hIA).trans HA.out.it) 1
                      have hsA := HA.out.kp.size
                      have hm1 : acc.length + 1 ≤ maxLen := by have := HIN.out.few; unfold maxLen; omega
                      have hm2 : (acc.length + 1) * 32 ≤ 140737488355328 := by have := HIN.out.few; omega
                      go_cut [45] from 11 to 57 (fun _ w' => ItB P X n w (acc ++ [(tx, nm)]) r w')
                      case first =>
                        go_region_law (first | (refine step_append_lies _ (by rfl) _ _ _ (by rfl) w.heap.size 83 i0 _ 2 32 Tryz.underlying23 HI.out HZ0.out HZ1.out HZ2.out rfl (by omega) (.slice va acc.length vc) acc.length (itemCells acc) (by rfl) (World.ownsRow.alloc HA.out.own _).drew ⟨wA.heap.size, 0, none⟩ 1 1 [.string tx, .string nm] (by rfl) (by rfl) (World.news_of_block (cs := #[.string tx, .string nm]) (t := 83) (fr := (0, 0)) (heap_alloc_new wA _)) (by simp [Value.oneCell']) (by omega) hm1 hm2 (by simp; omega) (wA.heap.size + 1) (by simp) ?_; intro g3 cap3 w6 hown3 hgrow3 hat3 hlt3; have hX6 := (hgrow3.block X (by have := lt_of_block HA.out.xat; simp; omega) (own_ne HA.out.own HXB.out)).trans ((Below.heap_alloc wA _ X (lt_of_block HA.out.xat)).trans HA.out.xat); have z2 : w6.cell? ⟨X, 2, none⟩ = some (.slice va acc.length vc) := Lib.cell_of_heap hX6 2; have u2 : w6.frozen? ⟨X, 2, none⟩ = false := Lib.frozen_of_heap hX6 2))
                        all_goals
                          go_wp2_with fail
                          go_meet
                          exact ItB.of HA.out HPX.out HXB.out hown3 hgrow3
                      case rest =>
                        have HB := Lib.hid hcut
                        have HM9 := Lib.hid (has_42 P n 0 ⟨#[44]⟩ wComma [] words2.2 r W _ HR.out.env (HW.out.trans (HB.out.kp.below HW.out.size (fun k e => by rcases e with e | e <;> (have := HWP.out; have := HPX.out; omega)))) HB.out.pat)
                        clear hcut x2 y2 i0' i1' hXA hIA x2a y2a i0a i1a hsA hm1 hm2
                        go_wp2_with fail
                        refine HM9.out.mono ?_
                        clear HM9
                        rintro e w9 ⟨hk9, hm9⟩
                        have HB9 := Lib.hid (HB.out.keep hk9 HPB.out HPX.out)
                        clear hk9
                        rcases has_one wComma r with ⟨e1, e2⟩ | ⟨t0, r9, e0, e1, e2⟩
                        · rw [e1] at hm9
                          obtain ⟨rfl, hp9⟩ := hm9
                          obtain ⟨vi9, hx9, ho9⟩ := HB9.out.2.2
                          have HF := Lib.hid (HIN.out.fin HXAL.out HST.out (items_no (m := m) HN8.out HOK.out e1) HB9.out.1 hp9 hx9 ho9)
                          clear e1 e2 hp9 hx9 ho9
                          go_wp2_with fail
                          go_end0
                          rw [← HPP.out]
                          exact HF.out
                        · rw [e1] at hm9
                          obtain ⟨rfl, hp9⟩ := hm9
                          obtain ⟨vi9, hx9, ho9⟩ := HB9.out.2.2
                          have hlt8 : acc.length < 8 := by have := HIN.out.few; have := HN8.out; omega
                          have HF : Hid (InI P X n w ts w9 m (acc ++ [(tx, nm)]) r9 vi9) := Lib.hid ⟨HB9.out.1, hp9, hx9, ho9, HIN.out.eq.trans (items_go (m := m) HN8.out HOK.out e1), by have := HIN.out.fuel; simp; omega, by simp; omega⟩
                          have HLT : Hid (r9.length < q.length) := Lib.hid (by have := HQL.out; rw [e0] at this; simp at this; omega)
                          clear e0 e1 e2 hp9 hx9 ho9 hlt8
                          go_wp2_with fail
                          go_roundw
                          case rel => exact ⟨_, _, _, _, HF.out⟩
                          case measure =>
                            rw [len_at HF.out.pat, HLA.out]
                            exact HLT.out
            | false =>
              have HNF := Lib.hid (HIP.out.trans (if_neg (by unfold isFn; simp [hfn])))
              clear hfn
              have HMN := Lib.hid (name_43 P n 0 q W _ HR.out.env (HW.out.trans ((HIN.out.kp.then (Kp.of HKQ.out)).below HW.out.size (fun k e => by rcases e with e | e <;> (have := HWP.out; have := HPX.out; omega)))) (HIN.out.pat.later HKQ.out))
              go_wp2_with fail
              refine HMN.out.mono ?_
              clear HMN
              rintro e w7 ⟨hk7, hm7⟩
              have HK7 := Lib.hid ((Kp.of (S := (· = P)) HKQ.out).then hk7)
              have HI7 := Lib.hid ((hk7.block wr.heap.size (lt_of_block HIQ.out) (by show ¬ wr.heap.size = P; have := HPB.out; have := HIN.out.kp.size; omega)).trans HIQ.out)
              clear hk7
              cases hnm : nameP q with
              | error q' =>
                rw [hnm] at hm7
                obtain rfl := hm7
                have HBAD := Lib.hid (items_err (m := m) HN8.out (HNF.out.trans (by rw [hnm]; rfl)))
                unfold stuckE
                simp (config := { zetaDelta := true }) only [Exit.inBlock, Exit.then]
                refine ⟨rfl, ?_⟩
                rw [← HPP.out]
                exact HIN.out.bad HST.out HBAD.out (HIN.out.kp.then HK7.out.two)
              | ok nr =>
                obtain ⟨nm, r⟩ := nr
                rw [hnm] at hm7
                obtain ⟨rfl, hp7⟩ := hm7
                have HOK := Lib.hid (show itemP q = .ok ((⟨#[]⟩, nm), r) from HNF.out.trans (by rw [hnm]; rfl))
                have hA := ItA.of (nm := nm) HIN.out rfl HK7.out HPB.out HPX.out HXB.out hp7 HI7.out
                have HA0 := Lib.hid hA
                have i0' : w7.cell? ⟨wr.heap.size, 1, none⟩ = some (.string ⟨#[]⟩) := Lib.cell_of_heap HI7.out 1
                have f0' : w7.frozen? ⟨wr.heap.size, 1, none⟩ = false := Lib.frozen_of_heap HI7.out 1
                have HQL : Hid (r.length ≤ q.length) := Lib.hid (by have := name_len hnm; omega)
                clear hnm hp7 hA
                go_upto_region 11 with (fail)
                refine wp_gen (fun wA => ItA P X n wr.heap.size w va vc acc ⟨#[]⟩ nm r wA) HA0.out ?_
                intro wA hA
                clear i0' f0'
                have HA := Lib.hid hA
                clear hA
                have x2 : wA.cell? ⟨X, 2, none⟩ = some (.slice va acc.length vc) := Lib.cell_of_heap HA.out.xat 2
                have y2 : wA.frozen? ⟨X, 2, none⟩ = false := Lib.frozen_of_heap HA.out.xat 2
                have i0' : wA.cell? ⟨wr.heap.size, 0, none⟩ = some (.string ⟨#[]⟩) := Lib.cell_of_heap HA.out.it 0
                have i1' : wA.cell? ⟨wr.heap.size, 1, none⟩ = some (.string nm) := Lib.cell_of_heap HA.out.it 1
                have hXA : X < wA.heap.size := lt_of_block HA.out.xat
                have hIA : wr.heap.size < wA.heap.size := lt_of_block HA.out.it
                have x2a : ∀ o, (wA.alloc o).cell? ⟨X, 2, none⟩ = some (.slice va acc.length vc) := fun o => Lib.cell_of_heap ((Below.heap_alloc wA o X hXA).trans HA.out.xat) 2
                have y2a : ∀ o, (wA.alloc o).frozen? ⟨X, 2, none⟩ = false := fun o => Lib.frozen_of_heap ((Below.heap_alloc wA o X hXA).trans HA.out.xat) 2
                have i0a : ∀ o, (wA.alloc o).cell? ⟨wr.heap.size, 0, none⟩ = some (.string ⟨#[]⟩) := fun o => Lib.cell_of_heap ((Below.heap_alloc wA o _ hIA).trans HA.out.it) 0
                have i1a : ∀ o, (wA.alloc o).cell? ⟨wr.heap.size, 1, none⟩ = some (.string nm) := fun o => Lib.cell_of_heap ((Below.heap_alloc wA o _ hIA).trans HA.out.it) 1
                have hsA := HA.out.kp.size
                have hm1 : acc.length + 1 ≤ maxLen := by have := HIN.out.few; unfold maxLen; omega
                have hm2 : (acc.length + 1) * 32 ≤ 140737488355328 := by have := HIN.out.few; omega
                go_cut [45] from 11 to 57 (fun _ w' => ItB P X n w (acc ++ [(⟨#[]⟩, nm)]) r w')
                case first =>
                  go_region_law (first | (refine step_append_lies _ (by rfl) _ _ _ (by rfl) w.heap.size 83 i0 _ 2 32 Tryz.underlying23 HI.out HZ0.out HZ1.out HZ2.out rfl (by omega) (.slice va acc.length vc) acc.length (itemCells acc) (by rfl) (World.ownsRow.alloc HA.out.own _).drew ⟨wA.heap.size, 0, none⟩ 1 1 [.string ⟨#[]⟩, .string nm] (by rfl) (by rfl) (World.news_of_block (cs := #[.string ⟨#[]⟩, .string nm]) (t := 83) (fr := (0, 0)) (heap_alloc_new wA _)) (by simp [Value.oneCell']) (by omega) hm1 hm2 (by simp; omega) (wA.heap.size + 1) (by simp) ?_; intro g3 cap3 w6 hown3 hgrow3 hat3 hlt3; have hX6 := (hgrow3.block X (by have := lt_of_block HA.out.xat; simp; omega) (own_ne HA.out.own HXB.out)).trans ((Below.heap_alloc wA _ X (lt_of_block HA.out.xat)).trans HA.out.xat); have z2 : w6.cell? ⟨X, 2, none⟩ = some (.slice va acc.length vc) := Lib.cell_of_heap hX6 2; have u2 : w6.frozen? ⟨X, 2, none⟩ = false := Lib.frozen_of_heap hX6 2))
                  all_goals
                    go_wp2_with fail
                    go_meet
                    exact ItB.of HA.out HPX.out HXB.out hown3 hgrow3
                case rest =>
                  have HB := Lib.hid hcut
                  have HM9 := Lib.hid (has_42 P n 0 ⟨#[44]⟩ wComma [] words2.2 r W _ HR.out.env (HW.out.trans (HB.out.kp.below HW.out.size (fun k e => by rcases e with e | e <;> (have := HWP.out; have := HPX.out; omega)))) HB.out.pat)
                  clear hcut x2 y2 i0' i1' hXA hIA x2a y2a i0a i1a hsA hm1 hm2
                  go_wp2_with fail
                  refine HM9.out.mono ?_
                  clear HM9
                  rintro e w9 ⟨hk9, hm9⟩
                  have HB9 := Lib.hid (HB.out.keep hk9 HPB.out HPX.out)
                  clear hk9
                  rcases has_one wComma r with ⟨e1, e2⟩ | ⟨t0, r9, e0, e1, e2⟩
                  · rw [e1] at hm9
                    obtain ⟨rfl, hp9⟩ := hm9
                    obtain ⟨vi9, hx9, ho9⟩ := HB9.out.2.2
                    have HF := Lib.hid (HIN.out.fin HXAL.out HST.out (items_no (m := m) HN8.out HOK.out e1) HB9.out.1 hp9 hx9 ho9)
                    clear e1 e2 hp9 hx9 ho9
                    go_wp2_with fail
                    go_end0
                    rw [← HPP.out]
                    exact HF.out
                  · rw [e1] at hm9
                    obtain ⟨rfl, hp9⟩ := hm9
                    obtain ⟨vi9, hx9, ho9⟩ := HB9.out.2.2
                    have hlt8 : acc.length < 8 := by have := HIN.out.few; have := HN8.out; omega
                    have HF : Hid (InI P X n w ts w9 m (acc ++ [(⟨#[]⟩, nm)]) r9 vi9) := Lib.hid ⟨HB9.out.1, hp9, hx9, ho9, HIN.out.eq.trans (items_go (m := m) HN8.out HOK.out e1), by have := HIN.out.fuel; simp; omega, by simp; omega⟩
                    have HLT : Hid (r9.length < q.length) := Lib.hid (by have := HQL.out; rw [e0] at this; simp at this; omega)
                    clear e0 e1 e2 hp9 hx9 ho9 hlt8
                    go_wp2_with fail
                    go_roundw
                    case rel => exact ⟨_, _, _, _, HF.out⟩
                    case measure =>
                      rw [len_at HF.out.pat, HLA.out]
                      exact HLT.out
        · have hk1b : (kd == 1) = false := by simp [hk1]
          have HNF := Lib.hid (HIP.out.trans (if_neg (by unfold isFn; simp [hk1])))
          clear hk1 hw6
          go_wp2_with fail
          go_quiet (fail)
          have HKQ := Lib.hid (Go.below_drewN HB5.out nq)
          have HIQ : Hid (((w5.alloc (.cells #[.int .i64 kd, .string tx, .int .i64 at_] 96 (0, 0))).drewN nq).heap[wr.heap.size]? = some (.cells #[.string ⟨#[]⟩, .string ⟨#[]⟩] 83 (0, 0))) := Lib.hid HI5.out
          have HMN := Lib.hid (name_43 P n 0 q W _ HR.out.env (HW.out.trans ((HIN.out.kp.then (Kp.of HKQ.out)).below HW.out.size (fun k e => by rcases e with e | e <;> (have := HWP.out; have := HPX.out; omega)))) (HIN.out.pat.later HKQ.out))
          go_wp2_with fail
          refine HMN.out.mono ?_
          clear HMN
          rintro e w7 ⟨hk7, hm7⟩
          have HK7 := Lib.hid ((Kp.of (S := (· = P)) HKQ.out).then hk7)
          have HI7 := Lib.hid ((hk7.block wr.heap.size (lt_of_block HIQ.out) (by show ¬ wr.heap.size = P; have := HPB.out; have := HIN.out.kp.size; omega)).trans HIQ.out)
          clear hk7
          cases hnm : nameP q with
          | error q' =>
            rw [hnm] at hm7
            obtain rfl := hm7
            have HBAD := Lib.hid (items_err (m := m) HN8.out (HNF.out.trans (by rw [hnm]; rfl)))
            unfold stuckE
            simp (config := { zetaDelta := true }) only [Exit.inBlock, Exit.then]
            refine ⟨rfl, ?_⟩
            rw [← HPP.out]
            exact HIN.out.bad HST.out HBAD.out (HIN.out.kp.then HK7.out.two)
          | ok nr =>
            obtain ⟨nm, r⟩ := nr
            rw [hnm] at hm7
            obtain ⟨rfl, hp7⟩ := hm7
            have HOK := Lib.hid (show itemP q = .ok ((⟨#[]⟩, nm), r) from HNF.out.trans (by rw [hnm]; rfl))
            have hA := ItA.of (nm := nm) HIN.out rfl HK7.out HPB.out HPX.out HXB.out hp7 HI7.out
            have HA0 := Lib.hid hA
            have i0' : w7.cell? ⟨wr.heap.size, 1, none⟩ = some (.string ⟨#[]⟩) := Lib.cell_of_heap HI7.out 1
            have f0' : w7.frozen? ⟨wr.heap.size, 1, none⟩ = false := Lib.frozen_of_heap HI7.out 1
            have HQL : Hid (r.length ≤ q.length) := Lib.hid (by have := name_len hnm; omega)
            clear hnm hp7 hA
            go_upto_region 11 with (fail)
            refine wp_gen (fun wA => ItA P X n wr.heap.size w va vc acc ⟨#[]⟩ nm r wA) HA0.out ?_
            intro wA hA
            clear i0' f0'
            have HA := Lib.hid hA
            clear hA
            have x2 : wA.cell? ⟨X, 2, none⟩ = some (.slice va acc.length vc) := Lib.cell_of_heap HA.out.xat 2
            have y2 : wA.frozen? ⟨X, 2, none⟩ = false := Lib.frozen_of_heap HA.out.xat 2
            have i0' : wA.cell? ⟨wr.heap.size, 0, none⟩ = some (.string ⟨#[]⟩) := Lib.cell_of_heap HA.out.it 0
            have i1' : wA.cell? ⟨wr.heap.size, 1, none⟩ = some (.string nm) := Lib.cell_of_heap HA.out.it 1
            have hXA : X < wA.heap.size := lt_of_block HA.out.xat
            have hIA : wr.heap.size < wA.heap.size := lt_of_block HA.out.it
            have x2a : ∀ o, (wA.alloc o).cell? ⟨X, 2, none⟩ = some (.slice va acc.length vc) := fun o => Lib.cell_of_heap ((Below.heap_alloc wA o X hXA).trans HA.out.xat) 2
            have y2a : ∀ o, (wA.alloc o).frozen? ⟨X, 2, none⟩ = false := fun o => Lib.frozen_of_heap ((Below.heap_alloc wA o X hXA).trans HA.out.xat) 2
            have i0a : ∀ o, (wA.alloc o).cell? ⟨wr.heap.size, 0, none⟩ = some (.string ⟨#[]⟩) := fun o => Lib.cell_of_heap ((Below.heap_alloc wA o _ hIA).trans HA.out.it) 0
            have i1a : ∀ o, (wA.alloc o).cell? ⟨wr.heap.size, 1, none⟩ = some (.string nm) := fun o => Lib.cell_of_heap ((Below.heap_alloc wA o _ hIA).trans HA.out.it) 1
            have hsA := HA.out.kp.size
            have hm1 : acc.length + 1 ≤ maxLen := by have := HIN.out.few; unfold maxLen; omega
            have hm2 : (acc.length + 1) * 32 ≤ 140737488355328 := by have := HIN.out.few; omega
            go_cut [45] from 11 to 57 (fun _ w' => ItB P X n w (acc ++ [(⟨#[]⟩, nm)]) r w')
            case first =>
              go_region_law (first | (refine step_append_lies _ (by rfl) _ _ _ (by rfl) w.heap.size 83 i0 _ 2 32 Tryz.underlying23 HI.out HZ0.out HZ1.out HZ2.out rfl (by omega) (.slice va acc.length vc) acc.length (itemCells acc) (by rfl) (World.ownsRow.alloc HA.out.own _).drew ⟨wA.heap.size, 0, none⟩ 1 1 [.string ⟨#[]⟩, .string nm] (by rfl) (by rfl) (World.news_of_block (cs := #[.string ⟨#[]⟩, .string nm]) (t := 83) (fr := (0, 0)) (heap_alloc_new wA _)) (by simp [Value.oneCell']) (by omega) hm1 hm2 (by simp; omega) (wA.heap.size + 1) (by simp) ?_; intro g3 cap3 w6 hown3 hgrow3 hat3 hlt3; have hX6 := (hgrow3.block X (by have := lt_of_block HA.out.xat; simp; omega) (own_ne HA.out.own HXB.out)).trans ((Below.heap_alloc wA _ X (lt_of_block HA.out.xat)).trans HA.out.xat); have z2 : w6.cell? ⟨X, 2, none⟩ = some (.slice va acc.length vc) := Lib.cell_of_heap hX6 2; have u2 : w6.frozen? ⟨X, 2, none⟩ = false := Lib.frozen_of_heap hX6 2))
              all_goals
                go_wp2_with fail
                go_meet
                exact ItB.of HA.out HPX.out HXB.out hown3 hgrow3
            case rest =>
              have HB := Lib.hid hcut
              have HM9 := Lib.hid (has_42 P n 0 ⟨#[44]⟩ wComma [] words2.2 r W _ HR.out.env (HW.out.trans (HB.out.kp.below HW.out.size (fun k e => by rcases e with e | e <;> (have := HWP.out; have := HPX.out; omega)))) HB.out.pat)
              clear hcut x2 y2 i0' i1' hXA hIA x2a y2a i0a i1a hsA hm1 hm2
              go_wp2_with fail
              refine HM9.out.mono ?_
              clear HM9
              rintro e w9 ⟨hk9, hm9⟩
              have HB9 := Lib.hid (HB.out.keep hk9 HPB.out HPX.out)
              clear hk9
              rcases has_one wComma r with ⟨e1, e2⟩ | ⟨t0, r9, e0, e1, e2⟩
              · rw [e1] at hm9
                obtain ⟨rfl, hp9⟩ := hm9
                obtain ⟨vi9, hx9, ho9⟩ := HB9.out.2.2
                have HF := Lib.hid (HIN.out.fin HXAL.out HST.out (items_no (m := m) HN8.out HOK.out e1) HB9.out.1 hp9 hx9 ho9)
                clear e1 e2 hp9 hx9 ho9
                go_wp2_with fail
                go_end0
                rw [← HPP.out]
                exact HF.out
              · rw [e1] at hm9
                obtain ⟨rfl, hp9⟩ := hm9
                obtain ⟨vi9, hx9, ho9⟩ := HB9.out.2.2
                have hlt8 : acc.length < 8 := by have := HIN.out.few; have := HN8.out; omega
                have HF : Hid (InI P X n w ts w9 m (acc ++ [(⟨#[]⟩, nm)]) r9 vi9) := Lib.hid ⟨HB9.out.1, hp9, hx9, ho9, HIN.out.eq.trans (items_go (m := m) HN8.out HOK.out e1), by have := HIN.out.fuel; simp; omega, by simp; omega⟩
                have HLT : Hid (r9.length < q.length) := Lib.hid (by have := HQL.out; rw [e0] at this; simp at this; omega)
                clear e0 e1 e2 hp9 hx9 ho9 hlt8
                go_wp2_with fail
                go_roundw
                case rel => exact ⟨_, _, _, _, HF.out⟩
                case measure =>
                  rw [len_at HF.out.pat, HLA.out]
                  exact HLT.out
  · rw [e1] at hm1
    obtain ⟨rfl, hp1⟩ := hm1
    have x1 : w1.cell? ⟨X, 1, none⟩ = some (.bool false) := Lib.cell_of_heap HX1.out 1
    have y1 : w1.frozen? ⟨X, 1, none⟩ = false := Lib.frozen_of_heap HX1.out 1
    have HQ1 := Lib.hid hp1
    have HE := Lib.hid (show itemsP x ts = .ok ({ x with all := true }, r) by simp only [itemsP, e1])
    clear e0 e1 e2 hp1
    go_wp2_with fail
    go_end0
    rw [← HPP.out, HE.out]
    exact ⟨HK1.out.set (p := ⟨X, 1, none⟩) (.inl (.inr rfl)) _, rfl, HQ1.out.set (p := ⟨X, 1, none⟩) HPX.out _, rfl, _, heap_setCell_same _ _ _ _ _ _ HX1.out, by show World.ownsRow _ _ _ _ _ x.items.length (itemCells x.items); rw [HXI.out]; exact World.ownsRow_nil _ _ _ _⟩
end Go.Proofs.YtigicmnngppipaaGreatDoor.Tp
