/- The log and the document's are compared. Conditions: sizes. -/
import Derived.Test.YtjkgcpbgacdgaaaBU
namespace Go.Proofs.Ytjkgcpbgacdgaaa
open Go.RowKit
theorem LogAt.later {w w' : World} {T : Nat → Prop} {l d : Nat} {first size : Int} {v : Value} {X : List (Value × List Value)} {over : Bool} (h : LogAt w T l d first v X size over) (hb : Below w.heap.size w w') : LogAt w' T l d first v X size over :=
  h.same ((hb.block l (blk_lt h.blk)).trans h.blk) hb.size fun k _ _ hk => hb.block k hk
theorem DocAt.later {w w' : World} {U : Nat → Prop} {p : Nat} {first : Int} {v : Value} {X : List (Value × List Value)} {over : Bool} (h : DocAt w U p first v X over) (hb : Below w.heap.size w w') : DocAt w' U p first v X over :=
  h.same hb.size (fun k _ hk => hb.block k hk) fun _ h => h
def InSame (w : World) (first : Int) (XB YB : List (List UInt8)) (i : Value) (wr : World) : Prop :=
  ∃ k : Nat, k ≤ XB.length ∧ i = .int .i64 (first + k) ∧ (∀ j, j < k → XB[j]? = YB[j]?) ∧ Below w.heap.size w wr
theorem bytes_at {X : List (Value × List Value)} {XB : List (List UInt8)} (h : X.map Prod.snd = XB.map Lib.byteCells) {k : Nat} {x : Value × List Value} (hx : X[k]? = some x) : ∃ l, XB[k]? = some l ∧ x.2 = Lib.byteCells l := by
  have h1 : (X.map Prod.snd)[k]? = some x.2 := by rw [List.getElem?_map, hx]; rfl
  rw [h, List.getElem?_map] at h1
  cases hl : XB[k]? with
  | none => rw [hl] at h1; cases h1
  | some l => rw [hl] at h1; exact ⟨l, rfl, (Option.some.inj h1).symm⟩
theorem lists_eq {α : Type} {X Y : List α} (hl : X.length = Y.length) (h : ∀ j, j < X.length → X[j]? = Y[j]?) : X = Y := by
  apply List.ext_getElem?
  intro j
  by_cases hj : j < X.length
  · exact h j hj
  · rw [List.getElem?_eq_none (by omega), List.getElem?_eq_none (by omega)]
set_option maxHeartbeats 4000000 in
set_option maxRecDepth 100000 in
theorem same37 (w : World) (T U : Nat → Prop) (l d p : Nat) (first size df : Int) (v dv : Value) (X Y : List (Value × List Value)) (XB YB : List (List UInt8)) (over dover : Bool) (hl : LogAt w T l d first v X size over) (hd : DocAt w U p df dv Y dover) (hX : X.map Prod.snd = XB.map Lib.byteCells) (hY : Y.map Prod.snd = YB.map Lib.byteCells)
    (hf : 0 ≤ first ∧ first ≤ 1000000000000) (hdf : 0 ≤ df ∧ df ≤ 1000000000000) (hXn : XB.length ≤ 1000000000000) (hYn : YB.length ≤ 1000000000000) (hxs : ∀ b ∈ XB, b.length ≤ 1000000000000) :
    Calls Try.prog 37 #[.pointer (some ⟨l, 0, none⟩), .pointer (some ⟨p, 0, none⟩)] w fun e w' => e = .returned (.bool (decide (first = df ∧ XB = YB))) ∧ Below w.heap.size w w' := by
  have hXl : X.length = XB.length := by simpa using congrArg List.length hX
  have hYl : Y.length = YB.length := by simpa using congrArg List.length hY
  obtain ⟨va, vc, rfl⟩ := row_form hl.row
  obtain ⟨da, dc, rfl⟩ := hd.list.form
  obtain ⟨M, hM⟩ : ∃ M, XB.length = M := ⟨_, rfl⟩
  obtain ⟨M2, hM2⟩ : ∃ M, YB.length = M := ⟨_, rfl⟩
  have HL := Lib.hid hl
  have HD := Lib.hid hd
  have HX := Lib.hid hX
  have HY := Lib.hid hY
  have HXS := Lib.hid hxs
  have HM := Lib.hid (And.intro hM (And.intro hM2 (And.intro hXl hYl)))
  obtain ⟨d0, d1, d2⟩ := doc_cells hd.blk
  have hfs := fun n => Calls.quiet_of_same (w := w) (n := n) (v := .int .i64 first) ((first19 (w.drewN n) l d first size _ over hl.blk).mono fun _ _ h => ⟨h.1, h.2.symm⟩)
  have hnx := fun n => Calls.quiet_of (w := w) (n := n) (v := .int .i64 (first + (M : Int))) ((next20 (w.drewN n) l d first size va M vc over (by have := hl.blk; rw [hXl, hM] at this; exact this) (by omega) (by omega)).mono fun _ _ h => ⟨h.1, h.2⟩)
  have hdn := fun n => Calls.quiet_of (w := w) (n := n) (v := .int .i64 (df + (M2 : Int))) ((next67 (w.drewN n) U p df _ Y dover (hd.later (below_dN w n)) (by omega) (by omega)).mono fun _ _ h => ⟨by rw [← hM2, ← hYl]; exact h.1, h.2⟩)
  have HDN := Lib.hid (fun w' (hb : Below w.heap.size w w') => by
    have h5 := next67 w' U p df _ Y dover (hd.later hb) (by omega) (by omega)
    rw [hYl, hM2] at h5
    exact h5)
  have hMn : M ≤ 1000000000000 := by omega
  clear hl hd hX hY hxs hXl hYl hM hM2
  go_enter Try.func37, Try.ntmps37
  go_wp2_with fail
  by_cases hfd : first = df
  · subst hfd
    have hne : (first != first) = false := by simp
    by_cases hmm : M = M2
    · subst hmm
      have hne2 : (first + (M : Int) != first + (M : Int)) = false := by simp
      go_quiet (first | (go_at_call 19; exact hfs _) | (go_at_call 20; exact hnx _) | (go_at_call 67; exact hdn _))
      clear hfs hnx hdn
      have HB0 := Lib.hid (below_dN w nq)
      have hpl : p < w.heap.size := blk_lt HD.out.blk
      go_wp2_with fail
      go_loopw [5] (fun i wr => InSame w first XB YB i wr) (fun i _ => (first + (M : Int) - intOf i).toNat)
      case atStart => exact ⟨0, Nat.zero_le _, by simp, fun j hj => absurd hj (Nat.not_lt_zero _), HB0.out⟩
      case round =>
        obtain ⟨k, hk, rfl, heq, hb⟩ := hrel
        have HEQ := Lib.hid heq
        have HB := Lib.hid hb
        rw [HM.out.1] at hk
        have e0 : wr.cell? ⟨p, 0, none⟩ = some (.int .i64 first) := (hb.cell (p := ⟨p, 0, none⟩) hpl).trans d0
        clear heq hb
        by_cases hlt : k < M
        · have hlt' : decide (first + (k : Int) < first + (M : Int)) = true := decide_eq_true (by omega)
          go_wp2_with fail
          refine (HDN.out wr HB.out).mono ?_
          rintro e w1 ⟨rfl, q, hq⟩
          have HB1 := Lib.hid (HB.out.trans ((show Below wr.heap.size wr w1 from hq ▸ below_dN wr q).mono HB.out.size))
          clear hq
          go_wp2_with fail
          refine (get68 w1 T l d first size _ X over (first + (k : Int)) (HL.out.later HB1.out) (by omega) (by rw [HM.out.2.2.1, HM.out.1]; omega) (fun x hx => ?_)).mono ?_
          · obtain ⟨i, hi⟩ := List.getElem?_of_mem hx
            obtain ⟨b, hb, hb2⟩ := bytes_at HX.out hi
            rw [hb2, Lib.byteCells_length]
            exact HXS.out b (List.mem_of_getElem? hb)
          rintro e w2 ⟨hb2, ⟨h1, rfl⟩ | ⟨k1, x, v1, h1, hx, rfl, hr2⟩⟩
          · exfalso
            rw [HM.out.2.2.1, HM.out.1] at h1
            omega
          obtain rfl : k = k1 := by omega
          have HB2 := Lib.hid (HB1.out.trans (hb2.mono HB1.out.size))
          have HX2 := Lib.hid hx
          have HR2 := Lib.hid hr2
          clear hb2 hx hr2 h1
          go_wp2_with fail
          refine (get69 w2 U p first _ Y dover (first + (k : Int)) (HD.out.later HB2.out) (by omega) (by rw [HM.out.2.2.2, HM.out.2.1]; omega)).mono ?_
          rintro e w3 ⟨⟨q, hq⟩, ⟨h1, rfl⟩ | ⟨k1, y, h1, hy, rfl⟩⟩
          · exfalso
            rw [HM.out.2.2.2, HM.out.2.1] at h1
            omega
          obtain rfl : k = k1 := by omega
          have hb3 : Below w2.heap.size w2 w3 := hq ▸ below_dN w2 q
          have HB3 := Lib.hid (HB2.out.trans (hb3.mono HB2.out.size))
          obtain ⟨bx, hbx, hbx2⟩ := bytes_at HX.out HX2.out
          obtain ⟨by', hby, hby2⟩ := bytes_at HY.out hy
          have hrx := row_later HR2.out hb3
          rw [hbx2] at hrx
          have hsy := ((HD.out.later HB3.out).list.2 y (List.mem_of_getElem? hy))
          obtain ⟨ya, yc, hyf⟩ := hsy.form
          rw [hyf, hby2] at hsy
          have hcx := str_of_row hrx (Lib.byteCells_length _)
          have hcy := str_of_srcN (n := (Lib.byteCells by').length) hsy
          rw [hby2] at hyf
          rw [hyf]
          obtain ⟨xa, xc, rfl⟩ := row_form hrx
          have HBX := Lib.hid (And.intro hbx hby)
          clear hq h1 hy hb3 hbx hbx2 hby hby2 hrx hsy hyf
          by_cases hxy : bx = by'
          · subst hxy
            go_wp2_with fail
            go_roundw
            case rel =>
              refine ⟨k + 1, by rw [HM.out.1]; exact hlt, by go_num, fun j hj => ?_, HB3.out⟩
              by_cases hj' : j = k
              · subst hj'; rw [HBX.out.1, HBX.out.2]
              · exact HEQ.out j (by omega)
            case measure => simp [intOf]; omega
          · have hxb : (!bx == by') = true := by simp [hxy]
            go_wp2_with fail
            go_ret
            refine ⟨?_, HB3.out⟩
            rw [decide_eq_false (show ¬(XB = YB) from fun h => hxy (by have h1 := HBX.out.1; rw [h, HBX.out.2] at h1; exact (Option.some.inj h1).symm))]
            rfl
        · obtain rfl : k = M := by omega
          have hall : XB = YB := lists_eq (by rw [HM.out.1, HM.out.2.1]) (by rw [HM.out.1]; exact HEQ.out)
          have HALL := Lib.hid hall
          have hlt' : decide (first + (k : Int) < first + (k : Int)) = false := decide_eq_false (by omega)
          clear hall
          go_wp2_with fail
          refine (HDN.out wr HB.out).mono ?_
          rintro e w1 ⟨rfl, q, hq⟩
          have HB1 := Lib.hid (HB.out.trans ((show Below wr.heap.size wr w1 from hq ▸ below_dN wr q).mono HB.out.size))
          clear hq
          have e1 : w1.cell? ⟨p, 0, none⟩ = some (.int .i64 first) := (HB1.out.cell (p := ⟨p, 0, none⟩) hpl).trans d0
          go_wp2_with fail
          refine (get68 w1 T l d first size _ X over (first - 1) (HL.out.later HB1.out) (by omega) (by rw [HM.out.2.2.1, HM.out.1]; omega) (fun x hx => ?_)).mono ?_
          · obtain ⟨i, hi⟩ := List.getElem?_of_mem hx
            obtain ⟨b, hb, hb2⟩ := bytes_at HX.out hi
            rw [hb2, Lib.byteCells_length]
            exact HXS.out b (List.mem_of_getElem? hb)
          rintro e w2 ⟨hb2, ⟨h1, rfl⟩ | ⟨k1, x, v1, h1, hx, rfl, hr2⟩⟩
          rotate_left
          · exfalso; omega
          have HB2 := Lib.hid (HB1.out.trans (hb2.mono HB1.out.size))
          clear hb2 h1
          go_wp2_with fail
          refine (HDN.out w2 HB2.out).mono ?_
          rintro e w3 ⟨rfl, q, hq⟩
          have HB3 := Lib.hid (HB2.out.trans ((show Below w2.heap.size w2 w3 from hq ▸ below_dN w2 q).mono HB2.out.size))
          clear hq
          go_wp2_with fail
          refine (get68 w3 T l d first size _ X over (first + (k : Int)) (HL.out.later HB3.out) (by omega) (by rw [HM.out.2.2.1, HM.out.1]; omega) (fun x hx => ?_)).mono ?_
          · obtain ⟨i, hi⟩ := List.getElem?_of_mem hx
            obtain ⟨b, hb, hb2⟩ := bytes_at HX.out hi
            rw [hb2, Lib.byteCells_length]
            exact HXS.out b (List.mem_of_getElem? hb)
          rintro e w4 ⟨hb4, ⟨h1, rfl⟩ | ⟨k1, x, v1, h1, hx, rfl, hr2⟩⟩
          · have HB4 := Lib.hid (HB3.out.trans (hb4.mono HB3.out.size))
            clear hb4 h1
            go_wp2_with fail
            go_ret
            refine ⟨?_, HB4.out⟩
            rw [decide_eq_true (show XB = YB from HALL.out)]
            rfl
          · exfalso
            have h2 := (List.getElem?_eq_some_iff.1 hx).1
            rw [HM.out.2.2.1, HM.out.1] at h2
            omega
    · have hne2 : (first + (M : Int) != first + (M2 : Int)) = true := by simp; omega
      go_quiet (first | (go_at_call 19; exact hfs _) | (go_at_call 20; exact hnx _) | (go_at_call 67; exact hdn _))
      clear hfs hnx hdn
      go_wp2_with fail
      go_ret
      refine ⟨?_, below_dN w _⟩
      rw [decide_eq_false (show ¬(XB = YB) from fun h => hmm (by rw [← HM.out.1, ← HM.out.2.1, h]))]
      rfl
  · have hne : (first != df) = true := by simp [hfd]
    go_quiet (first | (go_at_call 19; exact hfs _) | (go_at_call 20; exact hnx _) | (go_at_call 67; exact hdn _))
    clear hfs hnx hdn
    go_wp2_with fail
    go_ret
    refine ⟨?_, below_dN w _⟩
    rw [decide_eq_false (show ¬(first = df ∧ XB = YB) from fun h => hfd h.1)]
    rfl
end Go.Proofs.Ytjkgcpbgacdgaaa
