/- Several texts of this proof, laid together. Conditions: as each says. -/
import Derived.Test.YtagiddbfhlokcaaGreatDoorLAH
import Derived.Test.YtagiddbfhlokcaaGreatDoorLAA
import Derived.Test.YtagiddbfhlokcaaGreatDoorRows
import Derived.Lay
import Derived.MakeChecks
import Derived.Stop.LaidErr
import Derived.Lib.LaidTab
import Derived.ChangeSame
import Derived.ChangeArms
import Derived.Deep.Strs
import Derived.FnData
import Derived.OpenShut
import Derived.WalkKit
import Derived.ProofKit
import Derived.Below
import Derived.WalkLawsBesides
import Derived.WalkSpells
import Derived.BigQuiet
import Derived.Lib.Hide
import Derived.Deep.AppendLies
import Derived.Lib.SmallJoins
import Derived.Deep.RegionHeld
/- Reading a line by the program: the whole. Conditions: the text's length; the readers of values. -/
namespace Go.Proofs.YtagiddbfhlokcaaGreatDoor.Ser
open Go.RowKit Go.Sort
set_option maxRecDepth 100000
def szA (a : Act) : Nat := match a.tmps.getD 0 undef with
  | .string s => s.size
  | _ => 0
def JAll (V : List UInt8 → Value × Int) (now : Int) (L : Nat) (R : LR) (w : World) : Nat → Act → World → Prop
  | 0, a, w' => JWrong R w a w'
  | 1, a, w' => ∃ m, JField V now L R w m a w'
  | 2, a, w' => ∃ m, JTag V now L R w m a w'
  | 3, a, w' => JEnd L R w a w'
  | _, _, _ => False
def muL (l : Nat) (a : Act) (_ : World) : Nat := match l with
  | 0 => 0
  | 3 => 1
  | _ => 2 + szA a
theorem JField.tight {V : List UInt8 → Value × Int} {now : Int} {L : Nat} {R : LR} {w : World} {m : Nat} {a : Act} {w' : World} (h : JField V now L R w m a w') : ∃ k, szA a = k + 1 ∧ k ≤ m ∧ JField V now L R w k a w' := by
  obtain ⟨hf, h11, name, tags, fields, v, vf, c, r, n, g0, hm, hok, hlen, hrn, hrm, hR⟩ := h
  exact ⟨r.length, by unfold szA; rw [g0]; simp only; rw [bs_size]; rfl, hrm, hf, h11, name, tags, fields, v, vf, c, r, n, g0, hm, hok, hlen, hrn, Nat.le_refl _, hR⟩
theorem JTag.tight {V : List UInt8 → Value × Int} {now : Int} {L : Nat} {R : LR} {w : World} {m : Nat} {a : Act} {w' : World} (h : JTag V now L R w m a w') : ∃ k, szA a = k + 1 ∧ k ≤ m ∧ JTag V now L R w k a w' := by
  obtain ⟨hf, h11, name, tags, v, c, r, n, g0, hm, hok, hlen, hrn, hrm, hR⟩ := h
  exact ⟨r.length, by unfold szA; rw [g0]; simp only; rw [bs_size]; rfl, hrm, hf, h11, name, tags, v, c, r, n, g0, hm, hok, hlen, hrn, Nat.le_refl _, hR⟩
theorem wp_skip_seq {P : Program} {c : Code} {Q : Exit → Act → World → Prop} {a : Act} {w : World} (h : c.wp P Q a w) : (Code.skip.seq c).wp P Q a w := wp_seq (wp_skip h)
theorem PMem.setName {name : ByteArray} {tags : List Tg} {fields : List Fd} {v vf : Value} {tm : Int} {w wr : World} (nm : ByteArray) (h : PMem name tags fields v vf tm w wr) : PMem nm tags fields v vf tm w (wr.setCell ⟨w.heap.size + 1, 0, none⟩ (.string nm)) := by
  obtain ⟨k0, b0, t0, h3⟩ := h.val
  refine ⟨by rw [Below.heap_setCell _ _ _ _ (by simp)]; exact h.res, ?_, ⟨k0, b0, t0, by rw [Below.heap_setCell _ _ _ _ (by simp)]; exact h3⟩, ownsRow_setCell_below h.rt (by simp) _, ownsRow_setCell_below h.rf (by simp) _, h.ap, h.bel.setCell (by simp) _⟩
  rw [heap_setCell_same _ _ _ _ _ _ h.row]; rfl
theorem lp_none {V : List UInt8 → Value × Int} {now : Int} {l : List UInt8} (h : scan [] l = none) : lineP V now l = (2, none) := by unfold lineP; rw [h]
theorem lp_bad {V : List UInt8 → Value × Int} {now : Int} {l nb r : List UInt8} (h : scan [] l = some (nb, r)) (hn : nameB nb = false) : lineP V now l = (2, none) := by
  unfold lineP; rw [h]; simp only; rw [hn]; rfl
/-- What comes behind the name. -/
def nextN (V : List UInt8 → Value × Int) (now : Int) (L : Nat) (name : ByteArray) : List UInt8 → LR
  | [] => (2, none)
  | c :: r1 => if c = 32 then finP name [] (fieldsP V now L [] r1) else if c = 44 then tagsR V now L name (tagsP L [] r1) else (2, none)
theorem lp_ok {V : List UInt8 → Value × Int} {now : Int} {l nb r : List UInt8} (h : scan [] l = some (nb, r)) (hn : nameB nb = true) : lineP V now l = nextN V now l.length (ofL nb) r := by
  unfold lineP; rw [h]; simp only; rw [hn]; simp only [if_true]
  cases r with
  | nil => rfl
  | cons c r =>
    rw [nextN]
    by_cases h32 : c = 32
    · simp only [h32, if_true]
    · simp only [h32, if_false]
      by_cases h44 : c = 44
      · simp only [h44, if_true]
        unfold tagsR
        cases tagsP l.length [] r <;> rfl
      · simp only [h44, if_false]
theorem start15 (w : World) (now : Int) : PMem ⟨#[]⟩ [] [] (.slice none 0 0) (.slice none 0 0) now w (((w.alloc (.cells #[.string ⟨#[]⟩, .slice none 0 0, .slice none 0 0, .int .i64 0] 27)).alloc (.cells #[.string ⟨#[]⟩, .slice none 0 0, .slice none 0 0, .int .i64 now] 27)).alloc (.cells #[.int .i64 0, .int .u64 0, .string ⟨#[]⟩] 53)) := by
  have a1 := newest w (.cells #[.string ⟨#[]⟩, .slice none 0 0, .slice none 0 0, .int .i64 0] 27 (0, 0))
  obtain ⟨w1, h1⟩ : ∃ w1, w.alloc (.cells #[.string ⟨#[]⟩, .slice none 0 0, .slice none 0 0, .int .i64 0] 27 (0, 0)) = w1 := ⟨_, rfl⟩
  have s1 : w1.heap.size = w.heap.size + 1 := by rw [← h1]; simp
  have b1 : Below w.heap.size w w1 := by rw [← h1]; exact (Below.refl _ _).alloc (Nat.le_refl _) _
  rw [h1] at a1 ⊢
  have a2 := newest w1 (.cells #[.string ⟨#[]⟩, .slice none 0 0, .slice none 0 0, .int .i64 now] 27 (0, 0))
  have o2 : (w1.alloc (.cells #[.string ⟨#[]⟩, .slice none 0 0, .slice none 0 0, .int .i64 now] 27 (0, 0))).heap[w.heap.size]? = some (.cells #[.string ⟨#[]⟩, .slice none 0 0, .slice none 0 0, .int .i64 0] 27 (0, 0)) := (Below.heap_alloc _ _ _ (by omega)).trans a1
  obtain ⟨w2, h2⟩ : ∃ w2, w1.alloc (.cells #[.string ⟨#[]⟩, .slice none 0 0, .slice none 0 0, .int .i64 now] 27 (0, 0)) = w2 := ⟨_, rfl⟩
  have s2 : w2.heap.size = w.heap.size + 2 := by rw [← h2]; simp [s1]
  have b2 : Below w.heap.size w w2 := by rw [← h2]; exact b1.alloc b1.size _
  rw [h2] at a2 o2 ⊢
  rw [s1] at a2
  have a3 := newest w2 (.cells #[.int .i64 0, .int .u64 0, .string ⟨#[]⟩] 53 (0, 0))
  rw [s2] at a3
  exact ⟨(Below.heap_alloc _ _ _ (by omega)).trans o2, (Below.heap_alloc _ _ _ (by omega)).trans a2, ⟨0, 0, ⟨#[]⟩, a3⟩, World.ownsRow_nil _ _ _ _, World.ownsRow_nil _ _ _ _, (fun g h => nomatch h), b2.alloc b2.size _⟩
set_option maxHeartbeats 8000000 in
theorem parse15 {V : List UInt8 → Value × Int} (l : List UInt8) (hl : l.length ≤ 1073741824) (now : Int) (w : World) (HV : Readers V w) :
    Calls Tryz.prog 15 #[.string (bs l), .int .i64 now] w (RowPost (lineP V now l) w) := by
  obtain ⟨R, hR⟩ : ∃ R, lineP V now l = R := ⟨_, rfl⟩
  rw [hR]
  obtain ⟨L, hL⟩ : ∃ L, l.length = L := ⟨_, rfl⟩
  have HR := Lib.hid hR
  have HL := Lib.hid hL
  have HVV := Lib.hid HV
  have hl' : L ≤ 1073741824 := by omega
  have M39 := Lib.hid (fun w => cut39 l w (by omega))
  clear hR hL HV
  go_enter Tryz.func15, Tryz.ntmps15
  go_wp2_with fail
  refine wp_scope_labels (JAll V now L R w) muL ?_ ?_
  · go_upto_region 6 with (fail)
    refine wp_gen (fun wx => PMem ⟨#[]⟩ [] [] (.slice none 0 0) (.slice none 0 0) now w wx) (start15 w now) ?_
    intro w0 hm0
    have HM0 := Lib.hid hm0
    clear hm0
    go_wp2_with fail
    refine (M39.out _).mono ?_
    intro e w1 hcp
    obtain ⟨b, s1, ok, rfl, hy, hno, hb1⟩ := cutPost_cases hcp
    have hm1 := HM0.out.later hb1
    have HM1 := Lib.hid hm1
    have HM2 := Lib.hid (hm1.setName b)
    obtain ⟨d0, d1, d2, d3⟩ := hm1.cells
    obtain ⟨z0, z1, z2, z3⟩ := hm1.frees
    clear hcp hb1 hm1
    cases ok with
    | false =>
      have HP : Hid (R = (2, none)) := Lib.hid (by rw [← HR.out, lp_none (hno rfl)])
      clear hy hno
      go_wp2_with fail
      go_step3
      exact ⟨⟨rfl, rfl, rfl, rfl, rfl⟩, 2, rfl, HP.out, HM2.out.res, HM2.out.bel⟩
    | true =>
      obtain ⟨nb, r, hs, rfl, rfl⟩ := hy rfl
      have hl1 := scan_len _ (Nat.le_refl _) hs
      simp only [List.length_nil, Nat.zero_add] at hl1
      have HS := Lib.hid hs
      have M40 := Lib.hid (fun w => name40 nb (by omega) w)
      obtain ⟨bn, hbn⟩ : ∃ b, nameB nb = b := ⟨_, rfl⟩
      rw [hbn] at M40
      have HBN := Lib.hid hbn
      clear hy hno hs hbn
      cases bn with
      | false =>
        have HP : Hid (R = (2, none)) := Lib.hid (by rw [← HR.out, lp_bad HS.out HBN.out])
        go_wp2_with fail
        refine (M40.out _).mono ?_
        rintro e w2 ⟨rfl, hb2⟩
        have HM3 := Lib.hid (HM2.out.later hb2)
        clear hb2
        go_wp2_with fail
        go_step3
        exact ⟨⟨rfl, rfl, rfl, rfl, rfl⟩, 2, rfl, HP.out, HM3.out.res, HM3.out.bel⟩
      | true =>
        have HRR : Hid (R = nextN V now L (ofL nb) r) := Lib.hid (by rw [← HR.out, lp_ok HS.out HBN.out, HL.out])
        have HOK : Hid (Okay L (ofL nb) [] []) := Lib.hid ⟨name_sized HBN.out, (fun p hp => nomatch hp), (fun p hp => nomatch hp), Nat.zero_le _, Nat.zero_le _⟩
        rcases list_cases r with hrd | ⟨c2, r3, hrd⟩
        · have he0 := bs_nil hrd
          have HP : Hid (R = (2, none)) := Lib.hid (by rw [HRR.out, hrd]; rfl)
          clear hrd
          go_wp2_with fail
          refine (M40.out _).mono ?_
          rintro e w2 ⟨rfl, hb2⟩
          have HM3 := Lib.hid (HM2.out.later hb2)
          clear hb2
          go_wp2_with fail
          go_step3
          exact ⟨⟨rfl, rfl, rfl, rfl, rfl⟩, 2, rfl, HP.out, HM3.out.res, HM3.out.bel⟩
        · obtain ⟨hlt, hg, hem, h0i, h1i, htl⟩ := bs_head hrd
          have hl3 : r3.length + 1 = r.length := by rw [hrd]; rfl
          have hle : r3.length + 1 ≤ L := by have := HL.out; omega
          have HRD := Lib.hid hrd
          clear htl hrd
          by_cases h32 : c2 = 32
          · have c32 : ((c2.toNat : Int) == 32) = true := byte_eq c2 32 (by decide) h32
            have HP : Hid (R = finP (ofL nb) [] (fieldsP V now L [] r3)) := Lib.hid (by rw [HRR.out, HRD.out, nextN, if_pos h32])
            clear h32
            go_wp2_with fail
            refine (M40.out _).mono ?_
            rintro e w2 ⟨rfl, hb2⟩
            have HM3 := Lib.hid (HM2.out.later hb2)
            clear hb2
            go_wp2_with fail
            go_step3
            exact ⟨r3.length, ⟨rfl, rfl, rfl, rfl, rfl⟩, rfl, _, [], [], _, _, c2, r3, L, by rw [← HRD.out]; rfl, HM3.out, HOK.out, by simp; omega, by omega, Nat.le_refl _, HP.out⟩
          · have c32 : ((c2.toNat : Int) == 32) = false := byte_ne c2 32 (by decide) h32
            by_cases h44 : c2 = 44
            · have c44 : ((c2.toNat : Int) != 44) = false := by rw [h44]; rfl
              have HP : Hid (R = tagsR V now L (ofL nb) (tagsP L [] r3)) := Lib.hid (by rw [HRR.out, HRD.out, nextN, if_neg h32, if_pos h44])
              clear h32 h44
              go_wp2_with fail
              refine (M40.out _).mono ?_
              rintro e w2 ⟨rfl, hb2⟩
              have HM3 := Lib.hid (HM2.out.later hb2)
              clear hb2
              go_wp2_with fail
              go_step3
              rename_i K hK
              refine hK _ _ (pass_tag hl' HVV.out (m := r3.length) rets15 (fun a2 w2 h => h) (fun a2 w2 m' _ h => ⟨m', h⟩) (fun a2 w2 m' _ h => ⟨m', h⟩) (fun a2 w2 h => h) _ rfl _ _ ?_)
              exact ⟨⟨rfl, rfl, rfl, rfl, rfl⟩, rfl, _, [], _, c2, r3, L, by rw [← HRD.out]; rfl, HM3.out, HOK.out, by simp; omega, by omega, Nat.le_refl _, HP.out⟩
            · have c44 : ((c2.toNat : Int) != 44) = true := byte_bne c2 44 (by decide) h44
              have HP : Hid (R = (2, none)) := Lib.hid (by rw [HRR.out, HRD.out, nextN, if_neg h32, if_neg h44])
              clear h32 h44
              go_wp2_with fail
              refine (M40.out _).mono ?_
              rintro e w2 ⟨rfl, hb2⟩
              have HM3 := Lib.hid (HM2.out.later hb2)
              clear hb2
              go_wp2_with fail
              go_step3
              exact ⟨⟨rfl, rfl, rfl, rfl, rfl⟩, 2, rfl, HP.out, HM3.out.res, HM3.out.bel⟩
  · intro l' a w' hJ
    match l', hJ with
    | 0, hJ => exact ⟨_, rfl, wp_skip_seq (pass_wrong (rets_jumps rets15) _ rfl a w' hJ)⟩
    | 1, hJ =>
      obtain ⟨m, hJ⟩ := hJ
      obtain ⟨k, hk, _, hJ⟩ := hJ.tight
      refine ⟨_, rfl, wp_skip_seq (pass_field hl' HVV.out (m := k) rets15 (fun a2 w2 h => ⟨h, ?_⟩) (fun a2 w2 m' hm h => ⟨⟨m', h⟩, ?_⟩) (fun a2 w2 h => ⟨h, ?_⟩) _ rfl a w' hJ)⟩
      · show 0 < 2 + szA a; omega
      · obtain ⟨k2, h1, h2, _⟩ := h.tight
        show 2 + szA a2 < 2 + szA a; omega
      · show 1 < 2 + szA a; omega
    | 2, hJ =>
      obtain ⟨m, hJ⟩ := hJ
      obtain ⟨k, hk, _, hJ⟩ := hJ.tight
      refine ⟨_, rfl, wp_skip_seq (pass_tag hl' HVV.out (m := k) rets15 (fun a2 w2 h => ⟨h, ?_⟩) (fun a2 w2 m' hm h => ⟨⟨m', h⟩, ?_⟩) (fun a2 w2 m' hm h => ⟨⟨m', h⟩, ?_⟩) (fun a2 w2 h => ⟨h, ?_⟩) _ rfl a w' hJ)⟩
      · show 0 < 2 + szA a; omega
      · obtain ⟨k2, h1, h2, _⟩ := h.tight
        show 2 + szA a2 < 2 + szA a; omega
      · obtain ⟨k2, h1, h2, _⟩ := h.tight
        show 2 + szA a2 < 2 + szA a; omega
      · show 1 < 2 + szA a; omega
    | 3, hJ => exact ⟨_, rfl, wp_skip_seq (pass_end hl' (rets_jumps rets15) _ rfl a w' hJ)⟩
    | n + 4, hJ => exact hJ.elim
end Go.Proofs.YtagiddbfhlokcaaGreatDoor.Ser
/- Reading a line by the reference: its memory, and the plain law of its steps. No condition. -/
namespace Go.Proofs.YtagiddbfhlokcaaGreatDoor.Ser
open Go.RowKit Go.Sort
set_option maxRecDepth 100000
structure QMem (name : ByteArray) (tags : List Tg) (fields : List Fd) (v vf : Value) (tm : Int) (w wr : World) : Prop where
  res : wr.heap[w.heap.size]? = some (.cells #[.string ⟨#[]⟩, .slice none 0 0, .slice none 0 0, .int .i64 0] 27 (0, 0))
  non : wr.heap[w.heap.size + 1]? = some (.cells #[.string ⟨#[]⟩, .slice none 0 0, .slice none 0 0, .int .i64 0] 27 (0, 0))
  row : wr.heap[w.heap.size + 2]? = some (.cells #[.string name, v, vf, .int .i64 tm] 27 (0, 0))
  rt : RT wr (w.heap.size + 3) v tags
  rf : RF wr (w.heap.size + 3) vf fields
  ap : ∀ g, v.ownBlock = some g → vf.ownBlock ≠ some g
  bel : Below w.heap.size w wr
section
variable {name : ByteArray} {tags : List Tg} {fields : List Fd} {v vf : Value} {tm : Int} {w wr w' : World}
theorem QMem.size (h : QMem name tags fields v vf tm w wr) : w.heap.size + 2 < wr.heap.size := lt_of_block h.row
theorem QMem.later (h : QMem name tags fields v vf tm w wr) (hb : Below wr.heap.size wr w') : QMem name tags fields v vf tm w w' :=
  ⟨(hb.block _ (lt_of_block h.res)).trans h.res, (hb.block _ (lt_of_block h.non)).trans h.non, (hb.block _ (lt_of_block h.row)).trans h.row, own_later h.rt hb, own_later h.rf hb, h.ap, h.bel.trans (hb.mono h.bel.size)⟩
theorem QMem.cells (h : QMem name tags fields v vf tm w wr) :
    wr.cell? ⟨w.heap.size + 1 + 1, 0, none⟩ = some (.string name) ∧ wr.cell? ⟨w.heap.size + 1 + 1, 1, none⟩ = some v ∧ wr.cell? ⟨w.heap.size + 1 + 1, 2, none⟩ = some vf ∧ wr.cell? ⟨w.heap.size + 1 + 1, 3, none⟩ = some (.int .i64 tm) :=
  ⟨Lib.cell_of_heap h.row 0, Lib.cell_of_heap h.row 1, Lib.cell_of_heap h.row 2, Lib.cell_of_heap h.row 3⟩
theorem QMem.frees (h : QMem name tags fields v vf tm w wr) :
    wr.frozen? ⟨w.heap.size + 1 + 1, 0, none⟩ = false ∧ wr.frozen? ⟨w.heap.size + 1 + 1, 1, none⟩ = false ∧ wr.frozen? ⟨w.heap.size + 1 + 1, 2, none⟩ = false ∧ wr.frozen? ⟨w.heap.size + 1 + 1, 3, none⟩ = false :=
  ⟨Lib.frozen_of_heap h.row 0, Lib.frozen_of_heap h.row 1, Lib.frozen_of_heap h.row 2, Lib.frozen_of_heap h.row 3⟩
theorem zcells {B : Nat} (h : wr.heap[B]? = some (.cells #[.string ⟨#[]⟩, .slice none 0 0, .slice none 0 0, .int .i64 0] 27 (0, 0))) :
    wr.cell? ⟨B, 0, none⟩ = some (.string ⟨#[]⟩) ∧ wr.cell? ⟨B, 1, none⟩ = some (.slice none 0 0) ∧ wr.cell? ⟨B, 2, none⟩ = some (.slice none 0 0) ∧ wr.cell? ⟨B, 3, none⟩ = some (.int .i64 0) ∧
      wr.frozen? ⟨B, 0, none⟩ = false ∧ wr.frozen? ⟨B, 1, none⟩ = false ∧ wr.frozen? ⟨B, 2, none⟩ = false ∧ wr.frozen? ⟨B, 3, none⟩ = false :=
  ⟨Lib.cell_of_heap h 0, Lib.cell_of_heap h 1, Lib.cell_of_heap h 2, Lib.cell_of_heap h 3, Lib.frozen_of_heap h 0, Lib.frozen_of_heap h 1, Lib.frozen_of_heap h 2, Lib.frozen_of_heap h 3⟩
theorem QMem.setName (nm : ByteArray) (h : QMem name tags fields v vf tm w wr) : QMem nm tags fields v vf tm w (wr.setCell ⟨w.heap.size + 2, 0, none⟩ (.string nm)) := by
  refine ⟨by rw [Below.heap_setCell _ _ _ _ (by simp)]; exact h.res, by rw [Below.heap_setCell _ _ _ _ (by simp)]; exact h.non, ?_, ownsRow_setCell_below h.rt (by simp) _, ownsRow_setCell_below h.rf (by simp) _, h.ap, h.bel.setCell (by simp) _⟩
  rw [heap_setCell_same _ _ _ _ _ _ h.row]; rfl
theorem QMem.setTime (t : Int) (h : QMem name tags fields v vf tm w wr) : QMem name tags fields v vf t w (wr.setCell ⟨w.heap.size + 2, 3, none⟩ (.int .i64 t)) := by
  refine ⟨by rw [Below.heap_setCell _ _ _ _ (by simp)]; exact h.res, by rw [Below.heap_setCell _ _ _ _ (by simp)]; exact h.non, ?_, ownsRow_setCell_below h.rt (by simp) _, ownsRow_setCell_below h.rf (by simp) _, h.ap, h.bel.setCell (by simp) _⟩
  rw [heap_setCell_same _ _ _ _ _ _ h.row]; rfl
theorem QMem.appendF {v1 : Value} {o : Obj} {p : Fd} {n : Nat} {xs : List Value} (h : QMem name tags fields v vf tm w wr) (hg : (wr.alloc o).grownBy w' vf.ownBlock)
    (hat : v1.ownBlock = vf.ownBlock ∨ v1.ownBlock = some (wr.alloc o).heap.size) (hown : w'.ownsRow (w.heap.size + 3) 64 4 v1 n xs) (hn : n = fields.length + 1) (hx : xs = fields.flatMap encF ++ encF p) :
    w'.heap[w.heap.size + 2]? = some (.cells #[.string name, v, vf, .int .i64 tm] 27 (0, 0)) ∧ QMem name tags (fields ++ [p]) v v1 tm w (w'.setCell ⟨w.heap.size + 2, 2, none⟩ v1) := by
  have l3 := lt_of_block h.row
  have ne : ∀ j, j < w.heap.size + 3 → some j ≠ vf.ownBlock := fun j hj e => by have := (h.rf.lt j e.symm).1; omega
  have al : ∀ j, j < wr.heap.size → (wr.alloc o).heap[j]? = wr.heap[j]? := fun j hj => Below.heap_alloc wr o _ hj
  have f0 := (hg.block _ (by simp; omega) (ne (w.heap.size) (by omega))).trans ((al _ (by omega)).trans h.res)
  have f1 := (hg.block _ (by simp; omega) (ne (w.heap.size + 1) (by omega))).trans ((al _ (by omega)).trans h.non)
  have f2 := (hg.block _ (by simp; omega) (ne (w.heap.size + 2) (by omega))).trans ((al _ (by omega)).trans h.row)
  have f3 : RT w' (w.heap.size + 3) v tags := by
    refine (World.ownsRow.alloc h.rt o).kept hg ?_
    cases hv : v.ownBlock with
    | none => exact .inl rfl
    | some g => exact .inr fun e => h.ap g hv e.symm
  have f4 : Below w.heap.size w w' := (h.bel.alloc h.bel.size o).grown hg (by simp; omega) (fun j hj => by have := (h.rf.lt j hj).1; omega)
  subst hn hx
  refine ⟨f2, by rw [Below.heap_setCell _ _ _ _ (by simp)]; exact f0, by rw [Below.heap_setCell _ _ _ _ (by simp)]; exact f1, ?_, ownsRow_setCell_below f3 (by simp) _, ?_, ?_, f4.setCell (by simp) _⟩
  · rw [heap_setCell_same _ _ _ _ _ _ f2]; rfl
  · rw [RF, List.length_append, List.flatMap_append]
    exact ownsRow_setCell_below (by simpa using hown) (by simp) _
  · intro g hv e
    rcases hat with h1 | h1
    · rw [h1] at e; exact h.ap g hv e
    · rw [h1] at e
      have := (h.rt.lt g hv).2
      injection e with e
      simp at e
      omega
theorem QMem.appendT {v1 : Value} {o : Obj} {p : Tg} {n : Nat} {xs : List Value} (h : QMem name tags fields v vf tm w wr) (hg : (wr.alloc o).grownBy w' v.ownBlock)
    (hat : v1.ownBlock = v.ownBlock ∨ v1.ownBlock = some (wr.alloc o).heap.size) (hown : w'.ownsRow (w.heap.size + 3) 82 2 v1 n xs) (hn : n = tags.length + 1) (hx : xs = tags.flatMap encT ++ encT p) :
    w'.heap[w.heap.size + 2]? = some (.cells #[.string name, v, vf, .int .i64 tm] 27 (0, 0)) ∧ QMem name (tags ++ [p]) fields v1 vf tm w (w'.setCell ⟨w.heap.size + 2, 1, none⟩ v1) := by
  have l3 := lt_of_block h.row
  have ne : ∀ j, j < w.heap.size + 3 → some j ≠ v.ownBlock := fun j hj e => by have := (h.rt.lt j e.symm).1; omega
  have al : ∀ j, j < wr.heap.size → (wr.alloc o).heap[j]? = wr.heap[j]? := fun j hj => Below.heap_alloc wr o _ hj
  have f0 := (hg.block _ (by simp; omega) (ne (w.heap.size) (by omega))).trans ((al _ (by omega)).trans h.res)
  have f1 := (hg.block _ (by simp; omega) (ne (w.heap.size + 1) (by omega))).trans ((al _ (by omega)).trans h.non)
  have f2 := (hg.block _ (by simp; omega) (ne (w.heap.size + 2) (by omega))).trans ((al _ (by omega)).trans h.row)
  have f3 : RF w' (w.heap.size + 3) vf fields := by
    refine (World.ownsRow.alloc h.rf o).kept hg ?_
    cases hv : vf.ownBlock with
    | none => exact .inl rfl
    | some g => exact .inr fun e => h.ap g e.symm hv
  have f4 : Below w.heap.size w w' := (h.bel.alloc h.bel.size o).grown hg (by simp; omega) (fun j hj => by have := (h.rt.lt j hj).1; omega)
  subst hn hx
  refine ⟨f2, by rw [Below.heap_setCell _ _ _ _ (by simp)]; exact f0, by rw [Below.heap_setCell _ _ _ _ (by simp)]; exact f1, ?_, ?_, ownsRow_setCell_below f3 (by simp) _, ?_, f4.setCell (by simp) _⟩
  · rw [heap_setCell_same _ _ _ _ _ _ f2]; rfl
  · rw [RT, List.length_append, List.flatMap_append]
    exact ownsRow_setCell_below (by simpa using hown) (by simp) _
  · intro g hv e
    rcases hat with h1 | h1
    · rw [h1] at hv; exact h.ap g hv e
    · rw [h1] at hv
      have := (h.rf.lt g e).2
      injection hv with hv
      simp at hv
      omega
/-- The parser's memory, as it is laid. -/
theorem start14 (w : World) : QMem ⟨#[]⟩ [] [] (.slice none 0 0) (.slice none 0 0) 0 w (((w.alloc (.cells #[.string ⟨#[]⟩, .slice none 0 0, .slice none 0 0, .int .i64 0] 27)).alloc (.cells #[.string ⟨#[]⟩, .slice none 0 0, .slice none 0 0, .int .i64 0] 27)).alloc (.cells #[.string ⟨#[]⟩, .slice none 0 0, .slice none 0 0, .int .i64 0] 27)) := by
  obtain ⟨o, ho⟩ : ∃ o : Obj, o = .cells #[.string ⟨#[]⟩, .slice none 0 0, .slice none 0 0, .int .i64 0] 27 (0, 0) := ⟨_, rfl⟩
  have a1 := newest w o
  have a2 := newest (w.alloc o) o
  have a3 := newest ((w.alloc o).alloc o) o
  have s1 : (w.alloc o).heap.size = w.heap.size + 1 := by simp
  have s2 : ((w.alloc o).alloc o).heap.size = w.heap.size + 2 := by simp
  rw [s1] at a2
  rw [s2] at a3
  have b1 : Below w.heap.size w (((w.alloc o).alloc o).alloc o) := (((Below.refl _ _).alloc (Nat.le_refl _) o).alloc (by simp) o).alloc (by simp; omega) o
  rw [← ho]
  refine ⟨?_, ?_, ?_, ?_, ?_, fun g hg => (by cases hg), b1⟩
  · rw [Below.heap_alloc _ _ _ (by simp; omega), Below.heap_alloc _ _ _ (by simp), a1, ho]
  · rw [Below.heap_alloc _ _ _ (by simp), a2, ho]
  · rw [a3, ho]
  · exact ⟨rfl, .inl ⟨rfl, rfl⟩⟩
  · exact ⟨rfl, .inl ⟨rfl, rfl⟩⟩
/-- A line refused. -/
theorem QMem.wrong {R : LR} {er : Int} (h : QMem name tags fields v vf tm w wr) (hR : R = (er, none)) :
    RowPost R w (.returned (.tuple #[.agg #[.string ⟨#[]⟩, .slice none 0 0, .slice none 0 0, .int .i64 0], .int .i64 er])) ((((wr.setCell ⟨w.heap.size, 0, none⟩ (.string ⟨#[]⟩)).setCell ⟨w.heap.size, 1, none⟩ (.slice none 0 0)).setCell ⟨w.heap.size, 2, none⟩ (.slice none 0 0)).setCell ⟨w.heap.size, 3, none⟩ (.int .i64 0)) := by
  subst hR
  exact ⟨below_four _ _ _ _ h.bel, rfl⟩
/-- Behind 'sorted'. -/
theorem QMem.fin {R : LR} {e : Ending} (h : QMem name tags fields v vf tm w wr) (hp : RowPostB R (w.heap.size + 3) wr e w') :
    ∃ nm a n c a' n' c' t er, e = .returned (.tuple #[.agg #[.string nm, .slice a n c, .slice a' n' c', .int .i64 t], .int .i64 er]) ∧ w'.heap[w.heap.size]? = some (.cells #[.string ⟨#[]⟩, .slice none 0 0, .slice none 0 0, .int .i64 0] 27 (0, 0)) ∧
      RowPost R w (.returned (.tuple #[.agg #[.string nm, .slice a n c, .slice a' n' c', .int .i64 t], .int .i64 er])) ((((w'.setCell ⟨w.heap.size, 0, none⟩ (.string nm)).setCell ⟨w.heap.size, 1, none⟩ (.slice a n c)).setCell ⟨w.heap.size, 2, none⟩ (.slice a' n' c')).setCell ⟨w.heap.size, 3, none⟩ (.int .i64 t)) := by
  obtain ⟨hb, hm⟩ := hp
  have hb2 := h.bel.trans (hb.mono (by omega))
  have hr := (hb.block w.heap.size (by omega)).trans h.res
  cases ho : R.2 with
  | none =>
    rw [ho] at hm
    simp only at hm
    subst hm
    exact ⟨_, _, _, _, _, _, _, _, _, rfl, hr, below_four _ _ _ _ hb2, by rw [ho]⟩
  | some r =>
    rw [ho] at hm
    obtain ⟨v1, v2, rfl, h1, h2, h3⟩ := hm
    obtain ⟨a1, c1, rfl⟩ := h1.slice
    obtain ⟨a2, c2, rfl⟩ := h2.slice
    refine ⟨_, _, _, _, _, _, _, _, _, rfl, hr, below_four _ _ _ _ hb2, ?_⟩
    rw [ho]
    refine ⟨_, _, rfl, ?_, ?_, h3⟩
    · exact own_down (ownsRow_setCell_below (ownsRow_setCell_below (ownsRow_setCell_below (ownsRow_setCell_below h1 (by simp) _) (by simp) _) (by simp) _) (by simp) _) (by omega)
    · exact own_down (ownsRow_setCell_below (ownsRow_setCell_below (ownsRow_setCell_below (ownsRow_setCell_below h2 (by simp) _) (by simp) _) (by simp) _) (by simp) _) (by omega)
end
theorem results14 {tmps : Array Value} {wr : World} {B : Nat} {x y z u : Value} (hb : tmps.getD 4 undef = .pointer (some ⟨B, 0, none⟩)) (hk : wr.heap[B]? = some (.cells #[x, y, z, u] 27 (0, 0))) :
    (results Tryz.f14 tmps).run Tryz.prog wr = .ok (.tuple #[.agg #[x, y, z, u], tmps.getD 5 undef]) wr := by
  have hb' : tmps[4]?.getD undef = .pointer (some ⟨B, 0, none⟩) := by simpa using hb
  have h0 : wr.cell? ⟨B, 0, none⟩ = some x := Lib.cell_of_heap hk 0
  have h1 : wr.cell? ⟨B, 1, none⟩ = some y := Lib.cell_of_heap hk 1
  have h2 : wr.cell? ⟨B, 2, none⟩ = some z := Lib.cell_of_heap hk 2
  have h3 : wr.cell? ⟨B, 3, none⟩ = some u := Lib.cell_of_heap hk 3
  simp [results, hb', h0, h1, h2, h3, go_sem]
/-- What the reference asks of its reader of values. -/
structure RReaders (V : List UInt8 → Value × Int) (w : World) : Prop where
  v : ∀ l, l.length ≤ 140737488355328 → ∀ w2, Below w.heap.size w w2 → Calls Tryz.prog 21 #[.string (bs l)] w2 fun e w' => e = .returned (.tuple #[(V l).1, .int .i64 (V l).2]) ∧ Below w2.heap.size w2 w'
  f : ∀ l, ∃ k b t n, V l = (val k b t, n) ∧ 0 ≤ b ∧ b < 18446744073709551616
/-- What comes behind the name, or behind a tag. -/
def nextQ (V : List UInt8 → Value × Int) (now : Int) (L : Nat) (name : ByteArray) (tags : List Tg) (n : Nat) : List UInt8 → LR
  | [] => (2, none)
  | c :: r1 => if c = 32 then finP name tags (fieldsP V now L [] r1) else if c = 44 then tagsR V now L name (tagsP n tags r1) else (2, none)
theorem nextN_Q (V : List UInt8 → Value × Int) (now : Int) (L : Nat) (name : ByteArray) (r : List UInt8) : nextN V now L name r = nextQ V now L name [] L r := by cases r <;> rfl
theorem tagsR_next (V : List UInt8 → Value × Int) (now : Int) (L : Nat) (name : ByteArray) (n : Nat) (acc : List Tg) (r2 : List UInt8) : tagsR V now L name (nextT n acc r2) = nextQ V now L name acc n r2 := by
  cases r2 with
  | nil => rfl
  | cons c r =>
    unfold nextT nextQ
    by_cases h44 : c = 44
    · subst h44
      simp
    · by_cases h32 : c = 32
      · subst h32
        simp [tagsR]
      · simp [h44, h32, tagsR]
theorem mid_bs (l : List UInt8) (a m : Nat) : (bs l).extract a (a + m) = bs ((l.drop a).take m) := by
  apply ByteArray.ext
  rw [← Array.toList_inj]
  rw [Lib.extract_data, bs_list, bs_list]
  rw [Nat.add_sub_cancel_left]
theorem head_split {l r1 : List UInt8} {k0 : Nat} {sg : UInt8} {kb : List UInt8} (hk0 : k0 ≤ l.length) (hs : scan [] (l.drop k0) = some (kb, r1)) (hh : headIs sg r1 = true) :
    ∃ q r2, l.length - r1.length = q ∧ k0 ≤ q ∧ q < l.length ∧ r1 = sg :: r2 ∧ r2 = l.drop (q + 1) := by
  obtain ⟨h1, h2, h3⟩ := scan_rest hk0 hs
  cases r1 with
  | nil => cases hh
  | cons c r2 =>
    simp only [headIs, decide_eq_true_eq] at hh
    refine ⟨_, r2, rfl, h2, ?_, by rw [hh], ?_⟩
    · simp only [List.length_cons] at h3 ⊢; omega
    · obtain ⟨_, _, _, h4, _⟩ := at_cons h1.symm
      exact h4.symm
end Go.Proofs.YtagiddbfhlokcaaGreatDoor.Ser
/- Reading a line by the reference: the walk. Conditions: the text's length; the reader of values. -/
namespace Go.Proofs.YtagiddbfhlokcaaGreatDoor.Ser
open Go.RowKit Go.Sort
set_option maxRecDepth 100000
def InQT (V : List UInt8 → Value × Int) (now : Int) (l : List UInt8) (R : LR) (w : World) (i : Value) (wr : World) : Prop :=
  ∃ (name : ByteArray) (tags : List Tg) (v : Value) (p n : Nat), i = .int .i64 p ∧ p ≤ l.length ∧ l.length - p ≤ n ∧ tags.length + (l.length - p) ≤ l.length ∧ QMem name tags [] v (.slice none 0 0) 0 w wr ∧ Okay l.length name tags [] ∧ R = nextQ V now l.length name tags n (l.drop p)
def InQF (V : List UInt8 → Value × Int) (now : Int) (l : List UInt8) (name : ByteArray) (tags : List Tg) (v : Value) (R : LR) (w : World) (i : Value) (wr : World) : Prop :=
  ∃ (fields : List Fd) (vf : Value) (p n : Nat), i = .int .i64 p ∧ p < l.length ∧ l.length - p ≤ n ∧ fields.length + (l.length - p) ≤ l.length ∧ QMem name tags fields v vf 0 w wr ∧ Okay l.length name tags fields ∧ R = finP name tags (fieldsP V now n fields (l.drop (p + 1)))
set_option maxHeartbeats 16000000 in
theorem parse14 {V : List UInt8 → Value × Int} (now : Int) (l : List UInt8) (hl : l.length ≤ 1073741824) (w : World) (HV : RReaders V w) : Calls Tryz.prog 14 #[.string (bs l), .int .i64 now] w (RowPost (lineP V now l) w) := by
  obtain ⟨R, hR⟩ : ∃ R, lineP V now l = R := ⟨_, rfl⟩
  rw [hR]
  have HR := Lib.hid hR.symm
  have HVV := Lib.hid HV
  have HSZ := Lib.hid (bs_size l)
  have M33 := Lib.hid (fun w => part33 l 0 w (by omega) (Nat.zero_le _))
  clear hR HV
  go_enter Tryz.func14, Tryz.ntmps14
  go_upto_region 3 with (fail)
  refine wp_gen (fun wx => QMem ⟨#[]⟩ [] [] (.slice none 0 0) (.slice none 0 0) 0 w wx) (start14 w) ?_
  intro w0 hm0
  have HM0 := Lib.hid hm0
  clear hm0
  go_wp2_with fail
  refine (M33.out _).mono ?_
  rintro e w1 ⟨hb1, n, z, ok, rfl, hy, hn⟩
  have hm1 := HM0.out.later hb1
  have HM1 := Lib.hid hm1
  obtain ⟨q0, q1, q2, q3, _⟩ := zcells hm1.non
  obtain ⟨_, _, _, _, z0, z1, z2, z3⟩ := zcells hm1.res
  obtain ⟨o0, o1, o2, o3, _⟩ := zcells hm1.res
  clear hb1 hm1
  cases ok with
  | false =>
    have HP : Hid (R = (2, none)) := Lib.hid (by rw [HR.out]; exact lp_none (hn rfl))
    clear hy hn
    go_wp2_with fail
    exact bodyPost_ret (results14 rfl (four _ _ _ _ HM1.out.res)) rfl (HM1.out.wrong HP.out)
  | true =>
    obtain ⟨nb, r, hs, rfl, rfl⟩ := hy rfl
    have hsl := scan_len _ (Nat.le_refl _) hs
    obtain ⟨hr1, _, hr3⟩ := scan_rest (Nat.zero_le _) hs
    obtain ⟨q, hq⟩ : ∃ q, l.length - r.length = q := ⟨_, rfl⟩
    rw [hq] at hr1 ⊢
    have hs0 : scan [] l = some (nb, r) := hs
    have HS := Lib.hid hs0
    obtain ⟨bn, hbn⟩ : ∃ b, nameB nb = b := ⟨_, rfl⟩
    have M34 := Lib.hid (fun w => rname_is (b := bn) (ofL nb) w (by rw [ofL_size]; unfold maxLen; simp at hsl; omega) (by simpa [ofL] using hbn))
    have HBN := Lib.hid hbn
    have HR1 := Lib.hid hr1
    have hql : q ≤ l.length := by omega
    clear hy hn hs hs0 hbn hr1 hsl hq hr3
    cases bn with
    | false =>
      have HP : Hid (R = (2, none)) := Lib.hid (by rw [HR.out]; exact lp_bad HS.out HBN.out)
      go_wp2_with fail
      refine (M34.out _).mono ?_
      rintro e w2 ⟨rfl, hb2⟩
      have hm2 := HM1.out.later hb2
      have HM2 := Lib.hid hm2
      clear q0 q1 q2 q3 z0 z1 z2 z3 o0 o1 o2 o3
      obtain ⟨q0, q1, q2, q3, _⟩ := zcells hm2.non
      obtain ⟨o0, o1, o2, o3, z0, z1, z2, z3⟩ := zcells hm2.res
      clear hb2 hm2
      go_wp2_with fail
      exact bodyPost_ret (results14 rfl (four _ _ _ _ HM2.out.res)) rfl (HM2.out.wrong HP.out)
    | true =>
      have HP : Hid (R = nextQ V now l.length (ofL nb) [] l.length (l.drop q)) := Lib.hid (by rw [HR.out, lp_ok HS.out HBN.out, nextN_Q, ← HR1.out])
      go_wp2_with fail
      refine (M34.out _).mono ?_
      rintro e w2 ⟨rfl, hb2⟩
      have hm2 := HM1.out.later hb2
      have HM2 := Lib.hid hm2
      clear q0 q1 q2 q3 z0 z1 z2 z3 o0 o1 o2 o3
      obtain ⟨d0, d1, d2, d3⟩ := hm2.cells
      obtain ⟨z0, z1, z2, z3⟩ := hm2.frees
      clear hb2 hm2
      go_wp2_with fail
      have HM3 := Lib.hid (HM2.out.setName (ofL nb))
      have HOK : Hid (Okay l.length (ofL nb) [] []) := Lib.hid ⟨name_sized HBN.out, (fun p h => nomatch h), (fun p h => nomatch h), Nat.zero_le _, Nat.zero_le _⟩
      clear d0 d1 d2 d3 z0 z1 z2 z3
      go_loopw [9] (fun i wx => InQT V now l R w i wx) (fun i _ => l.length - (intOf i).toNat)
      case atStart => exact ⟨_, _, _, q, l.length, rfl, hql, by omega, by simp, HM3.out, HOK.out, HP.out⟩
      case round =>
        obtain ⟨name, tags, v, p, n, rfl, hp, hn, htl, hm, hok, hR2⟩ := hrel
        rename World => wl
        have HM := Lib.hid hm
        have HK := Lib.hid hok
        have HR2 := Lib.hid hR2
        have HN := Lib.hid hn
        have HTL := Lib.hid htl
        obtain ⟨q0, q1, q2, q3, _⟩ := zcells hm.non
        obtain ⟨o0, o1, o2, o3, z0, z1, z2, z3⟩ := zcells hm.res
        clear hm hok hR2 hn htl HM3 HM2 HM1 HM0 HP HOK
        rcases list_cases (l.drop p) with e | ⟨c, t, e⟩
        · obtain ⟨h1, h2⟩ := at_nil hp e
          have HP : Hid (R = (2, none)) := Lib.hid (by rw [HR2.out, e]; rfl)
          clear e h2
          go_wp2_with fail
          exact bodyPost_ret (results14 rfl (four _ _ _ _ HM.out.res)) rfl (HM.out.wrong HP.out)
        · obtain ⟨hlt, hg, hz, hd, hkl⟩ := at_cons e
          have HD := Lib.hid hd
          have HE := Lib.hid e
          clear hd e
          by_cases h44 : c = 44
          · have c44 : ((c.toNat : Int) == 44) = true := byte_eq c 44 (by decide) h44
            obtain ⟨n, rfl⟩ : ∃ k, n = k + 1 := ⟨n - 1, by have := HN.out; omega⟩
            have HRR : Hid (R = tagsR V now l.length name (tagsP (n + 1) tags t)) := Lib.hid (by rw [HR2.out, HE.out, nextQ, h44]; rfl)
            have M35 := Lib.hid (fun w => name35 l (p + 1) 61 w (by omega) hkl)
            clear h44
            go_wp2_with fail
            refine (M35.out _).mono ?_
            rintro e w1 ⟨hb1, nm, z, ok, rfl, hy, hn⟩
            rw [HD.out] at hy hn
            have hm1 := HM.out.later hb1
            have HM1 := Lib.hid hm1
            clear q0 q1 q2 q3 o0 o1 o2 o3 z0 z1 z2 z3 hlt hg hz c44
            obtain ⟨q0, q1, q2, q3, _⟩ := zcells hm1.non
            obtain ⟨o0, o1, o2, o3, z0, z1, z2, z3⟩ := zcells hm1.res
            clear hb1 hm1
            cases ok with
            | false =>
              have HP : Hid (R = (2, none)) := Lib.hid (by
                rw [HRR.out]
                rcases hn rfl with h | ⟨nb, r, h, hb⟩
                · rw [tp_none h]; rfl
                · rw [tp_bad h hb]; rfl)
              clear hy hn
              go_wp2_with fail
              exact bodyPost_ret (results14 rfl (four _ _ _ _ HM1.out.res)) rfl (HM1.out.wrong HP.out)
            | true =>
              obtain ⟨kb, r1, hs, hnm, hh, rfl, rfl⟩ := hy rfl
              have hsl := scan_len _ (Nat.le_refl _) hs
              obtain ⟨q, r2, hq, hpq, hql, hr1, hr2⟩ := head_split (l := l) (k0 := p + 1) (by omega) (by rw [HD.out]; exact hs) hh
              subst hr1
              rw [hq]
              have HS := Lib.hid hs
              have HNM := Lib.hid hnm
              have HSB : Hid ((nameB kb && headIs 61 (61 :: r2)) = true) := Lib.hid (by rw [hnm]; rfl)
              have HR22 := Lib.hid hr2
              have M33b := Lib.hid (fun w => part33 l (q + 1) w (by omega) (by omega))
              clear hy hn hs hnm hh hsl hq hr2
              go_wp2_with fail
              refine (M33b.out _).mono ?_
              rintro e w2 ⟨hb2, nm2, z2', ok2, rfl, hy, hn⟩
              rw [← HR22.out] at hy hn
              have hm2 := HM1.out.later hb2
              have HM2 := Lib.hid hm2
              clear q0 q1 q2 q3 o0 o1 o2 o3 z0 z1 z2 z3
              obtain ⟨q0, q1, q2, q3, _⟩ := zcells hm2.non
              obtain ⟨o0, o1, o2, o3, z0, z1, z2, z3⟩ := zcells hm2.res
              clear hb2 hm2
              cases ok2 with
              | false =>
                have HP : Hid (R = (2, none)) := Lib.hid (by rw [HRR.out, tp_vnone HS.out HSB.out (hn rfl)]; rfl)
                clear hy hn
                go_wp2_with fail
                exact bodyPost_ret (results14 rfl (four _ _ _ _ HM2.out.res)) rfl (HM2.out.wrong HP.out)
              | true =>
                obtain ⟨vb, r3, hs2, rfl, rfl⟩ := hy rfl
                have hsl := scan_len _ (Nat.le_refl _) hs2
                obtain ⟨hr3, hqq, hr3l⟩ := scan_rest (l := l) (k0 := q + 1) (by omega) (by rw [← HR22.out]; exact hs2)
                obtain ⟨q3', hq3⟩ : ∃ q3', l.length - r3.length = q3' := ⟨_, rfl⟩
                rw [hq3] at hr3 hqq ⊢
                have hq3l : q3' ≤ l.length := by omega
                have HS2 : Hid (scan [] (61 :: r2).tail = some (vb, r3)) := Lib.hid hs2
                have HR3 := Lib.hid hr3
                obtain ⟨bn, hbn⟩ : ∃ b, nameB vb = b := ⟨_, rfl⟩
                have hr2l : r2.length ≤ l.length := by rw [HR22.out, List.length_drop]; omega
                have M34b := Lib.hid (fun w => rname_is (b := bn) (ofL vb) w (by rw [ofL_size]; unfold maxLen; simp at hsl; omega) (by simpa [ofL] using hbn))
                have HBN := Lib.hid hbn
                clear hy hn hs2 hsl hr3 hq3 hbn hr3l hr2l
                cases bn with
                | false =>
                  have HP : Hid (R = (2, none)) := Lib.hid (by rw [HRR.out, tp_vbad HS.out HSB.out HS2.out HBN.out]; rfl)
                  go_wp2_with fail
                  refine (M34b.out _).mono ?_
                  rintro e w3 ⟨rfl, hb3⟩
                  have hm3 := HM2.out.later hb3
                  have HM3 := Lib.hid hm3
                  clear q0 q1 q2 q3 o0 o1 o2 o3 z0 z1 z2 z3
                  obtain ⟨q0, q1, q2, q3, _⟩ := zcells hm3.non
                  obtain ⟨o0, o1, o2, o3, z0, z1, z2, z3⟩ := zcells hm3.res
                  clear hb3 hm3
                  go_wp2_with fail
                  exact bodyPost_ret (results14 rfl (four _ _ _ _ HM3.out.res)) rfl (HM3.out.wrong HP.out)
                | true =>
                  have HP : Hid (R = nextQ V now l.length name (tags ++ [(ofL kb, ofL vb)]) n (l.drop q3')) := Lib.hid (by rw [HRR.out, tp_ok HS.out HSB.out HS2.out HBN.out, tagsR_next, HR3.out])
                  go_wp2_with fail
                  refine (M34b.out _).mono ?_
                  rintro e w3 ⟨rfl, hb3⟩
                  have hm3 := HM2.out.later hb3
                  have HM3 := Lib.hid hm3
                  clear q0 q1 q2 q3 o0 o1 o2 o3 z0 z1 z2 z3 hb3
                  obtain ⟨d0, d1, d2, d3⟩ := hm3.cells
                  obtain ⟨fa, fc, hvf⟩ := hm3.rt.slice
                  subst hvf
                  have hsz5 := hm3.size
                  obtain ⟨i0, hi, hz0, hz1, hz2⟩ := info_parts info82
                  have HI := Lib.hid hi
                  have HZ0 := Lib.hid hz0
                  have HZ1 := Lib.hid hz1
                  have HZ2 := Lib.hid hz2
                  have htl2 : tags.length < 1073741824 := by have := HTL.out; omega
                  clear hi hz0 hz1 hz2 hm3
                  go_upto_region 15 with ((at_builtin; go_must (refine wpList_append_own_at _ rfl (.tmp 83) (.tmp 87) 22 rfl (w.heap.size + 3) 82 i0 _ 2 32 Tryz.underlying22 HI.out HZ0.out HZ1.out HZ2.out rfl (by omega) _ tags.length _ rfl (World.ownsRow.alloc HM3.out.rt _) ⟨w3.heap.size, 0, none⟩ 1 1 [.string (ofL kb), .string (ofL vb)] rfl rfl (World.news_of_block (cs := #[.string (ofL kb), .string (ofL vb)]) (t := 82) (fr := (0, 0)) (heap_alloc_new w3 _)) (by simp [Value.oneCell']) (by unfold maxLen; omega) (by omega) (by simp; omega) ?_); intro vn w6 hown1 hgrow1 hnn hat; clear hnn; obtain ⟨gv, cv, rfl, _, _⟩ := hown1.form (by omega); have hg6 := HM3.out.appendT (p := (ofL kb, ofL vb)) hgrow1 hat hown1 rfl rfl; have d6 : w6.cell? ⟨w.heap.size + 1 + 1, 1, none⟩ = some (.slice fa tags.length fc) := (Lib.cell_of_heap hg6.1 1); have z6 : w6.frozen? ⟨w.heap.size + 1 + 1, 1, none⟩ = false := (Lib.frozen_of_heap hg6.1 1); have HMA := Lib.hid hg6.2; clear hown1 hgrow1 hat hg6))
                  refine wp_gen (fun wx => QMem name (tags ++ [(ofL kb, ofL vb)]) [] (.slice (some ⟨gv, 0, none⟩) (tags.length + 1) cv) (.slice none 0 0) 0 w wx) HMA.out ?_
                  clear HMA d6 z6 d0 d1 d2 d3 hsz5 HM3
                  intro w7 hm7
                  have HM7 := Lib.hid hm7
                  have HOK : Hid (Okay l.length name (tags ++ [(ofL kb, ofL vb)]) []) := Lib.hid (by
                    obtain ⟨k1, k2, k3, k4, k5⟩ := HK.out
                    refine ⟨k1, fun p hp => ?_, k3, ?_, k5⟩
                    · rcases List.mem_append.1 hp with hp | hp
                      · exact k2 p hp
                      · simp at hp
                        subst hp
                        exact ⟨name_sized HNM.out, name_sized HBN.out⟩
                    · have := HTL.out
                      simp; omega)
                  clear hm7
                  go_wp2_with fail
                  refine ⟨⟨name, _, _, q3', n, rfl, hq3l, by have := HN.out; omega, by have := HTL.out; simp; omega, HM7.out, HOK.out, HP.out⟩, ?_⟩
                  simp [intOf]; omega
          · have c44 : ((c.toNat : Int) == 44) = false := byte_ne c 44 (by decide) h44
            by_cases h32 : c = 32
            · have c32 : ((c.toNat : Int) != 32) = false := by rw [h32]; rfl
              have hdp : decide ((bs l).size ≤ p) = false := decide_eq_false (by rw [HSZ.out]; omega)
              have HP : Hid (R = finP name tags (fieldsP V now l.length [] (l.drop (p + 1)))) := Lib.hid (by rw [HR2.out, HE.out, nextQ, if_pos h32, HD.out])
              clear h32 h44
              go_wp2_with fail
              clear q0 q1 q2 q3 o0 o1 o2 o3 z0 z1 z2 z3 hlt hg hz c44 c32
              go_loopw [9] (fun i wx => InQF V now l name tags v R w i wx) (fun i _ => l.length - (intOf i).toNat)
              case atStart => exact ⟨[], _, p, l.length, rfl, hkl, by omega, by simp, HM.out, HK.out, HP.out⟩
              case round =>
                obtain ⟨fields, vf, p, n, rfl, hp, hn, htl, hm, hok, hR2⟩ := hrel
                rename World => wf
                obtain ⟨n, rfl⟩ : ∃ k, n = k + 1 := ⟨n - 1, by omega⟩
                have HM := Lib.hid hm
                have HK := Lib.hid hok
                have HRR := Lib.hid hR2
                have HN := Lib.hid hn
                have HTL := Lib.hid htl
                have M35 := Lib.hid (fun w => name35 l (p + 1) 61 w (by omega) hp)
                clear hm hok hR2 hn htl HP
                go_wp2_with fail
                refine (M35.out _).mono ?_
                rintro e w1 ⟨hb1, nm, z, ok, rfl, hy, hn⟩
                have hm1 := HM.out.later hb1
                have HM1 := Lib.hid hm1
                obtain ⟨q0, q1, q2, q3, _⟩ := zcells hm1.non
                obtain ⟨o0, o1, o2, o3, z0, z1, z2, z3⟩ := zcells hm1.res
                clear hb1 hm1
                cases ok with
                | false =>
                  have HP : Hid (R = (2, none)) := Lib.hid (by
                    rw [HRR.out]
                    rcases hn rfl with h | ⟨nb, r, h, hb⟩
                    · rw [fp_none h, finP_err (by decide)]
                    · rw [fp_bad h hb, finP_err (by decide)])
                  clear hy hn
                  go_wp2_with fail
                  exact bodyPost_ret (results14 rfl (four _ _ _ _ HM1.out.res)) rfl (HM1.out.wrong HP.out)
                | true =>
                  obtain ⟨kb, r1, hs, hnm, hh, rfl, rfl⟩ := hy rfl
                  obtain ⟨q, r2, hq, hpq, hql, hr1, hr2⟩ := head_split (l := l) (k0 := p + 1) (by omega) hs hh
                  subst hr1
                  rw [hq]
                  have HS := Lib.hid hs
                  have HNM := Lib.hid hnm
                  have HSB : Hid ((nameB kb && headIs 61 (61 :: r2)) = true) := Lib.hid (by rw [hnm]; rfl)
                  have HR22 := Lib.hid hr2
                  have M36 := Lib.hid (fun w => vend36 l (q + 1) (by omega) (by omega) w)
                  clear hy hn hs hnm hh hq hr2
                  go_wp2_with fail
                  refine (M36.out _).mono ?_
                  rintro e w2 ⟨rfl, hve⟩
                  rw [← HR22.out] at hve
                  obtain ⟨ve, hvv⟩ : ∃ ve, vEnd r2 = ve := ⟨_, rfl⟩
                  rw [hvv] at hve
                  have HVE : Hid (vEnd (61 :: r2).tail = ve) := Lib.hid hvv
                  cases ve with
                  | none =>
                    obtain ⟨zz, rfl⟩ := hve
                    have HP : Hid (R = (2, none)) := Lib.hid (by rw [HRR.out, fp_noend HS.out HSB.out HVE.out, finP_err (by decide)])
                    clear hvv
                    go_wp2_with fail
                    exact bodyPost_ret (results14 rfl (four _ _ _ _ HM1.out.res)) rfl (HM1.out.wrong HP.out)
                  | some m =>
                    simp only at hve
                    subst hve
                    have hm2 : m ≤ r2.length := vEnd_le hvv
                    rw [HR22.out, List.length_drop] at hm2
                    obtain ⟨z, hz⟩ : ∃ z, q + 1 + m = z := ⟨_, rfl⟩
                    rw [hz]
                    have hz1 : (q : Int) + 1 ≤ (z : Int) := by omega
                    have hz2 : (z : Int) ≤ ((bs l).size : Int) := by rw [HSZ.out]; omega
                    have hzl : z ≤ l.length := by omega
                    have hpz : p < z := by omega
                    obtain ⟨vk, vb, vt, er, hval, hvb⟩ := HVV.out.f (r2.take m)
                    have hext : bs (r2.take m) = (bs l).extract (q + 1) z := by rw [← hz, mid_bs, ← HR22.out]
                    have M21 := Lib.hid (HVV.out.v (r2.take m) (by rw [List.length_take, HR22.out, List.length_drop]; omega) w1 HM1.out.bel)
                    rw [hval, hext] at M21
                    unfold val at M21
                    simp only at M21
                    have HVAL : Hid (V ((61 :: r2).tail.take m) = (val vk vb vt, er)) := Lib.hid hval
                    have HVB := Lib.hid hvb
                    have HRD : Hid ((61 :: r2).tail.drop m = l.drop z) := Lib.hid (by rw [List.tail_cons, HR22.out, List.drop_drop, hz])
                    clear hval hvb hvv hext hz hm2 q0 q1 q2 q3 o0 o1 o2 o3 z0 z1 z2 z3
                    go_wp2_with fail
                    refine M21.out.mono ?_
                    rintro e w4 ⟨rfl, hb4⟩
                    have hm4 := HM1.out.later hb4
                    have HM4 := Lib.hid hm4
                    clear hb4 hm4
                    go_upto_region 25 with (fail)
                    refine wp_gen (fun wx => QMem name tags fields v vf 0 w wx ∧ wx.heap[w4.heap.size]? = some (.cells #[.int .i64 vk, .int .u64 vb, .string vt] 53 (0, 0))) ⟨HM4.out.later ((Below.refl _ _).alloc (Nat.le_refl _) _), newest _ _⟩ ?_
                    rintro w5 ⟨hm5, hg5⟩
                    have HM5 := Lib.hid hm5
                    have v0 : w5.cell? ⟨w4.heap.size, 0, none⟩ = some (.int .i64 vk) := Lib.cell_of_heap hg5 0
                    have v1 : w5.cell? ⟨w4.heap.size, 1, none⟩ = some (.int .u64 vb) := Lib.cell_of_heap hg5 1
                    have v2 : w5.cell? ⟨w4.heap.size, 2, none⟩ = some (.string vt) := Lib.cell_of_heap hg5 2
                    obtain ⟨q0, q1, q2, q3, _⟩ := zcells hm5.non
                    obtain ⟨o0, o1, o2, o3, z0, z1, z2, z3⟩ := zcells hm5.res
                    by_cases her : er = 0
                    · subst her
                      clear q0 q1 q2 q3 o0 o1 o2 o3 z0 z1 z2 z3
                      have HRN : Hid (R = finP name tags (nextP V now n fields (fields ++ [(ofL kb, vk, vb, vt)]) (l.drop z))) := Lib.hid (by
                        rw [HRR.out, fp_ok HS.out HSB.out HVE.out (by rw [HVAL.out]), HVAL.out, valF_val, HRD.out])
                      obtain ⟨d0, d1, d2, d3⟩ := hm5.cells
                      obtain ⟨fa, fc, hvf⟩ := hm5.rf.slice
                      subst hvf
                      have hsz5 := hm5.size
                      obtain ⟨i0, hi, hz0, hz1', hz2'⟩ := info_parts info64
                      have HI := Lib.hid hi
                      have HZ0 := Lib.hid hz0
                      have HZ1 := Lib.hid hz1'
                      have HZ2 := Lib.hid hz2'
                      have htl2 : fields.length < 1073741824 := by have := HTL.out; omega
                      clear hi hz0 hz1' hz2' hm5 hg5
                      go_upto_region 28 with ((at_builtin; go_must (refine wpList_append_own_at _ rfl (.tmp 138) (.tmp 142) 25 rfl (w.heap.size + 3) 64 i0 _ 4 48 Tryz.underlying25 HI.out HZ0.out HZ1.out HZ2.out rfl (by omega) _ fields.length _ rfl (World.ownsRow.alloc HM5.out.rf _) ⟨w5.heap.size, 0, none⟩ 1 1 [.string (ofL kb), .int .i64 vk, .int .u64 vb, .string vt] rfl rfl (World.news_of_block (cs := #[.string (ofL kb), .int .i64 vk, .int .u64 vb, .string vt]) (t := 64) (fr := (0, 0)) (heap_alloc_new w5 _)) (by simp [Value.oneCell']) (by unfold maxLen; omega) (by omega) (by simp; omega) ?_); intro vn w6 hown1 hgrow1 hnn hat; clear hnn; obtain ⟨gv, cv, rfl, _, _⟩ := hown1.form (by omega); have hg6 := HM5.out.appendF (p := (ofL kb, vk, vb, vt)) hgrow1 hat hown1 rfl rfl; have d6 : w6.cell? ⟨w.heap.size + 1 + 1, 2, none⟩ = some (.slice fa fields.length fc) := (Lib.cell_of_heap hg6.1 2); have z6 : w6.frozen? ⟨w.heap.size + 1 + 1, 2, none⟩ = false := (Lib.frozen_of_heap hg6.1 2); have HMA := Lib.hid hg6.2; clear hown1 hgrow1 hat hg6))
                      refine wp_gen (fun wx => QMem name tags (fields ++ [(ofL kb, vk, vb, vt)]) v (.slice (some ⟨gv, 0, none⟩) (fields.length + 1) cv) 0 w wx) HMA.out ?_
                      clear HMA d6 z6 d0 d1 d2 d3 v0 v1 v2 hsz5 HM5
                      intro w7 hm7
                      have HM7 := Lib.hid hm7
                      have HOK : Hid (Okay l.length name tags (fields ++ [(ofL kb, vk, vb, vt)])) := Lib.hid (by
                        obtain ⟨k1, k2, k3, k4, k5⟩ := HK.out
                        refine ⟨k1, k2, fun p hp => ?_, k4, ?_⟩
                        · rcases List.mem_append.1 hp with hp | hp
                          · exact k3 p hp
                          · simp at hp
                            subst hp
                            exact ⟨name_sized HNM.out, HVB.out⟩
                        · have := HTL.out
                          simp; omega)
                      clear hz1 hz2
                      rcases list_cases (l.drop z) with e | ⟨c, t, e⟩
                      · obtain ⟨h1, h2⟩ := at_nil hzl e
                        have HP : Hid (finP name tags (0, fields ++ [(ofL kb, vk, vb, vt)], now) = R) := Lib.hid (by rw [HRN.out, e]; rfl)
                        obtain ⟨d0, d1, d2, d3⟩ := hm7.cells
                        obtain ⟨z0, z1, z2, z3⟩ := hm7.frees
                        clear e h2 hm7
                        go_upto_region 31 with (fail)
                        refine wp_gen (fun wx => QMem name tags (fields ++ [(ofL kb, vk, vb, vt)]) v (.slice (some ⟨gv, 0, none⟩) (fields.length + 1) cv) now w wx) (HM7.out.setTime now) ?_
                        clear d0 d1 d2 d3 z0 z1 z2 z3
                        intro w8 hm8
                        have HM8 := Lib.hid hm8
                        obtain ⟨d0, d1, d2, d3⟩ := hm8.cells
                        have M38 := Lib.hid (sorted38 hl (w.heap.size + 3) name tags (fields ++ [(ofL kb, vk, vb, vt)]) v _ now w8 (by have := hm8.size; omega) hm8.rt hm8.rf hm8.ap HOK.out)
                        rw [HP.out] at M38
                        clear hm8
                        go_wp2_with fail
                        refine M38.out.mono ?_
                        intro e w9 hp9
                        obtain ⟨xa, x1, x2, x3, x4, x5, x6, xd, xe, rfl, hr9, hpost⟩ := HM8.out.fin hp9
                        have HR9 := Lib.hid hr9
                        have HPO := Lib.hid hpost
                        obtain ⟨o0, o1, o2, o3, z0, z1, z2, z3⟩ := zcells hr9
                        clear hp9 hr9 hpost
                        go_wp2_with fail
                        refine bodyPost_ret (results14 rfl (four _ _ _ _ HR9.out)) rfl ?_
                        exact HPO.out
                      · obtain ⟨hlt, hg, hz, hd, hkl⟩ := at_cons e
                        have HD := Lib.hid hd
                        have HE := Lib.hid e
                        clear hd e
                        by_cases h44 : c = 44
                        · have c44 : ((c.toNat : Int) != 44) = false := by rw [h44]; rfl
                          have HP : Hid (R = finP name tags (fieldsP V now n (fields ++ [(ofL kb, vk, vb, vt)]) (l.drop (z + 1)))) := Lib.hid (by rw [HRN.out, HE.out, nextP, if_pos h44, HD.out])
                          clear h44 hm7
                          go_wp2_with fail
                          go_roundw
                          case rel =>
                            exact ⟨_, _, z, n, rfl, hkl, by have := HN.out; omega, by have := HTL.out; simp; omega, HM7.out, HOK.out, HP.out⟩
                          case measure => simp [intOf]; omega
                        · have c44 : ((c.toNat : Int) != 44) = true := byte_bne c 44 (by decide) h44
                          obtain ⟨d0, d1, d2, d3⟩ := hm7.cells
                          obtain ⟨z0, z1, z2, z3⟩ := hm7.frees
                          have HC44 := Lib.hid h44
                          clear hm7 h44
                          by_cases h32 : c = 32
                          · have c32 : ((c.toNat : Int) != 32) = false := by rw [h32]; rfl
                            have HP : Hid (R = finP name tags ((PF.intP t).2, fields ++ [(ofL kb, vk, vb, vt)], (PF.intP t).1)) := Lib.hid (by rw [HRN.out, HE.out, nextP, if_neg HC44.out, if_pos h32])
                            clear h32
                            go_upto_region 31 with (fail)
                            refine wp_gen (fun wx => QMem name tags (fields ++ [(ofL kb, vk, vb, vt)]) v (.slice (some ⟨gv, 0, none⟩) (fields.length + 1) cv) now w wx) (HM7.out.setTime now) ?_
                            clear d0 d1 d2 d3 z0 z1 z2 z3
                            intro w7' hm7'
                            have HM7' := Lib.hid hm7'
                            obtain ⟨q0, q1, q2, q3, _⟩ := zcells hm7'.non
                            obtain ⟨o0, o1, o2, o3, z0, z1, z2, z3⟩ := zcells hm7'.res
                            obtain ⟨x, hx⟩ : ∃ x, PF.intP t = x := ⟨_, rfl⟩
                            have hext : bs t = (bs l).extract (z + 1) (bs l).size := by rw [drop_bs, HD.out]
                            have M37 := Lib.hid (int37 t (by rw [← HD.out, List.length_drop]; omega) w7')
                            rw [hx, hext] at M37
                            rw [hx] at HP
                            obtain ⟨tv, er⟩ := x
                            simp only at M37 HP
                            have hz3 : (z : Int) + 1 ≤ ((bs l).size : Int) := by rw [HSZ.out]; omega
                            clear hx hext hm7'
                            by_cases her : er = 0
                            · subst her
                              have HP2 : Hid (finP name tags (0, fields ++ [(ofL kb, vk, vb, vt)], tv) = R) := Lib.hid HP.out.symm
                              clear q0 q1 q2 q3 o0 o1 o2 o3 z0 z1 z2 z3
                              go_wp2_with fail
                              refine M37.out.mono ?_
                              rintro e wz ⟨rfl, hw⟩
                              obtain rfl := hw.symm
                              obtain ⟨d0, d1, d2, d3⟩ := HM7'.out.cells
                              obtain ⟨z0, z1, z2, z3⟩ := HM7'.out.frees
                              clear hw
                              go_upto_region 38 with (fail)
                              refine wp_gen (fun wx => QMem name tags (fields ++ [(ofL kb, vk, vb, vt)]) v (.slice (some ⟨gv, 0, none⟩) (fields.length + 1) cv) tv w wx) (HM7'.out.setTime tv) ?_
                              clear d0 d1 d2 d3 z0 z1 z2 z3
                              intro w8 hm8
                              have HM8 := Lib.hid hm8
                              obtain ⟨d0, d1, d2, d3⟩ := hm8.cells
                              have M38 := Lib.hid (sorted38 hl (w.heap.size + 3) name tags (fields ++ [(ofL kb, vk, vb, vt)]) v _ tv w8 (by have := hm8.size; omega) hm8.rt hm8.rf hm8.ap HOK.out)
                              rw [HP2.out] at M38
                              clear hm8
                              go_wp2_with fail
                              refine M38.out.mono ?_
                              intro e w9 hp9
                              obtain ⟨xa, x1, x2, x3, x4, x5, x6, xd, xe, rfl, hr9, hpost⟩ := HM8.out.fin hp9
                              have HR9 := Lib.hid hr9
                              have HPO := Lib.hid hpost
                              obtain ⟨o0, o1, o2, o3, z0, z1, z2, z3⟩ := zcells hr9
                              clear hp9 hr9 hpost
                              go_wp2_with fail
                              refine bodyPost_ret (results14 rfl (four _ _ _ _ HR9.out)) rfl ?_
                              exact HPO.out
                            · have hern : (er != 0) = true := by simpa using her
                              have HP2 : Hid (R = (er, none)) := Lib.hid (by rw [HP.out]; exact finP_err her)
                              clear her
                              go_wp2_with fail
                              refine M37.out.mono ?_
                              rintro e wz ⟨rfl, hw⟩
                              obtain rfl := hw.symm
                              clear hw
                              go_wp2_with fail
                              exact bodyPost_ret (results14 rfl (four _ _ _ _ HM7'.out.res)) rfl (HM7'.out.wrong HP2.out)
                          · have c32 : ((c.toNat : Int) != 32) = true := byte_bne c 32 (by decide) h32
                            have HP : Hid (R = (2, none)) := Lib.hid (by rw [HRN.out, HE.out, nextP, if_neg HC44.out, if_neg h32, finP_err (by decide)])
                            clear h32
                            go_upto_region 31 with (fail)
                            refine wp_gen (fun wx => QMem name tags (fields ++ [(ofL kb, vk, vb, vt)]) v (.slice (some ⟨gv, 0, none⟩) (fields.length + 1) cv) now w wx) (HM7.out.setTime now) ?_
                            clear d0 d1 d2 d3 z0 z1 z2 z3
                            intro w8 hm8
                            have HM8 := Lib.hid hm8
                            obtain ⟨q0, q1, q2, q3, _⟩ := zcells hm8.non
                            obtain ⟨o0, o1, o2, o3, z0, z1, z2, z3⟩ := zcells hm8.res
                            clear hm8
                            go_wp2_with fail
                            exact bodyPost_ret (results14 rfl (four _ _ _ _ HM8.out.res)) rfl (HM8.out.wrong HP.out)
                    · have hern : (er != 0) = true := by simpa using her
                      have HP : Hid (R = (er, none)) := Lib.hid (by
                        have hv2 : (V ((61 :: r2).tail.take m)).2 = er := by rw [HVAL.out]
                        rw [HRR.out, fp_err HS.out HSB.out HVE.out (by rw [hv2]; exact her), hv2, finP_err her])
                      clear her hm5 hg5 v0 v1 v2
                      go_wp2_with fail
                      exact bodyPost_ret (results14 rfl (four _ _ _ _ HM5.out.res)) rfl (HM5.out.wrong HP.out)
            · have c32 : ((c.toNat : Int) != 32) = true := byte_bne c 32 (by decide) h32
              have HP : Hid (R = (2, none)) := Lib.hid (by rw [HR2.out, HE.out, nextQ, if_neg h32, if_neg h44])
              clear h32 h44
              go_wp2_with fail
              exact bodyPost_ret (results14 rfl (four _ _ _ _ HM.out.res)) rfl (HM.out.wrong HP.out)
end Go.Proofs.YtagiddbfhlokcaaGreatDoor.Ser
/- A series' text, by the program. Condition: texts' lengths are numbers of Go's int. -/
namespace Go.Proofs.YtagiddbfhlokcaaGreatDoor.Ser
open Go.RowKit Go.Sort
def tagText (kf vf : Nat → ByteArray) (i : Nat) : List UInt8 := 44 :: (esc (kf i).data.toList ++ 61 :: esc (vf i).data.toList)
def textTo (name : ByteArray) (kf vf : Nat → ByteArray) (k : Nat) : List UInt8 := esc name.data.toList ++ (List.range k).flatMap (tagText kf vf)
theorem textTo_succ (name : ByteArray) (kf vf : Nat → ByteArray) (k : Nat) : textTo name kf vf (k + 1) = textTo name kf vf k ++ tagText kf vf k := by
  simp [textTo, List.range_succ]
theorem name_le {l : List UInt8} (h : nameB l = true) : l.length ≤ 64 := by
  simp only [nameB, Bool.and_eq_true, decide_eq_true_eq] at h
  exact h.2.2
theorem esc_name_le {l : List UInt8} (h : nameB l = true) : (esc l).length ≤ 128 := by have := esc_le l; have := name_le h; omega
theorem formed_parts {name : ByteArray} {n : Nat} {kf vf : Nat → ByteArray} (h : formedB name n kf vf = true) : nameB name.data.toList = true ∧ n ≤ 8 ∧ ∀ i, i < n → nameB (kf i).data.toList = true ∧ nameB (vf i).data.toList = true := by
  simp only [formedB, Bool.and_eq_true, decide_eq_true_eq, List.all_eq_true] at h
  refine ⟨h.2.1, h.2.2, fun i hi => ?_⟩
  have := h.1 i (by simpa using hi)
  simp only [stepOk, Bool.and_eq_true] at this
  exact ⟨this.1, this.2.1⟩
theorem textTo_le {name : ByteArray} {n k : Nat} {kf vf : Nat → ByteArray} (h : formedB name n kf vf = true) (hk : k ≤ n) : (textTo name kf vf k).length ≤ 128 + 258 * k := by
  obtain ⟨h1, _, h3⟩ := formed_parts h
  induction k with
  | zero => have := esc_name_le h1; simp [textTo]; omega
  | succ k ih =>
    have i1 := ih (by omega)
    obtain ⟨a, b⟩ := h3 k (by omega)
    have := esc_name_le a
    have := esc_name_le b
    rw [textTo_succ, List.length_append]
    simp only [tagText, List.length_cons, List.length_append]
    omega
def textB (name : ByteArray) (n : Nat) (kf vf : Nat → ByteArray) : ByteArray × Int := if formedB name n kf vf then (⟨(textTo name kf vf n).toArray⟩, 0) else (⟨#[]⟩, 1)
def InText (n cap : Nat) (name : ByteArray) (a : Option Addr) (kf vf : Nat → ByteArray) (w : World) (t i : Value) (wr : World) : Prop :=
  ∃ (k : Nat) (acc : ByteArray), k ≤ n ∧ i = .int .i64 k ∧ t = .string acc ∧ acc = ⟨(textTo name kf vf k).toArray⟩ ∧ Below w.heap.size w wr ∧ w.heap.size < wr.heap.size ∧ wr.cell? ⟨w.heap.size, 1, none⟩ = some (.slice a n cap)
theorem ba_ext {a b : ByteArray} (h : a.data.toList = b.data.toList) : a = b := by
  cases a; cases b; simp at h; simp [h]
theorem inText_next {n cap k : Nat} {name acc ek ev : ByteArray} {a : Option Addr} {kf vf : Nat → ByteArray} {w wr w2 : World} (hk : k < n) (ha : acc = ⟨(textTo name kf vf k).toArray⟩) (he : ek = ⟨(esc (kf k).data.toList).toArray⟩) (hv : ev = ⟨(esc (vf k).data.toList).toArray⟩)
    {nw : ByteArray} (hnw : nw.data.toList = acc.data.toList ++ 44 :: (ek.data.toList ++ 61 :: ev.data.toList))
    (hb : Below w.heap.size w wr) (hsz : w.heap.size < wr.heap.size) (hc1 : wr.cell? ⟨w.heap.size, 1, none⟩ = some (.slice a n cap)) (h1 : Below wr.heap.size wr w2) :
    InText n cap name a kf vf w (.string nw) (.int .i64 ((k : Int) + 1)) w2 ∧ n - (intOf (Value.int .i64 ((k : Int) + 1))).toNat < n - (intOf (Value.int .i64 (k : Int))).toNat := by
  refine ⟨⟨k + 1, nw, hk, by go_num, rfl, ?_, hb.trans (h1.mono (Nat.le_of_lt hsz)), Nat.lt_of_lt_of_le hsz h1.size, ?_⟩, ?_⟩
  · apply ba_ext
    rw [hnw, textTo_succ, ha, he, hv]
    simp [tagText]
  · rw [← hc1]; exact h1.cell hsz
  · simp [intOf]; omega
set_option maxHeartbeats 1000000 in
theorem text (name : ByteArray) (a : Option Addr) (n cap : Nat) (kf vf : Nat → ByteArray) (w : World) (hn : n < 2 ^ 63) (hname : name.size ≤ maxLen) (hks : ∀ i, (kf i).size ≤ maxLen ∧ (vf i).size ≤ maxLen)
    (ht : TagsAt w a n kf vf) : Calls Tryz.prog 26 #[.agg #[.string name, .slice a n cap]] w (Answer (.tuple #[.string (textB name n kf vf).1, .int .i64 (textB name n kf vf).2]) w) := by
  have HT := Lib.hid ht
  have HK := Lib.hid hks
  have hn0 : Hid (name.size ≤ maxLen) := Lib.hid hname
  clear ht hks hname
  cases hf : formedB name n kf vf with
  | false =>
    have HF := Lib.hid hf
    clear hf
    go_enter Tryz.func26, Tryz.ntmps26
    go_wp2_with fail
    refine (formed name a n cap kf vf _ hn hn0.out HK.out (by exact HT.out.later ((Below.refl _ _).alloc (Nat.le_refl _) _))).mono ?_
    rw [HF.out]
    rintro e w2 ⟨rfl, hb2⟩
    have HB2 := Lib.hid hb2
    clear hb2
    go_wp2_with fail
    go_ret2
    exact ⟨by simp [textB, HF.out], ((Below.refl _ _).alloc (Nat.le_refl _) _).trans (HB2.out.mono (by simp))⟩
  | true =>
    have HF := Lib.hid hf
    clear hf
    obtain ⟨hp1, hp2, hp3⟩ := formed_parts HF.out
    have HP := Lib.hid (And.intro hp1 hp3)
    clear hp1 hp3
    go_enter Tryz.func26, Tryz.ntmps26
    go_wp2_with fail
    refine (formed name a n cap kf vf _ hn hn0.out HK.out (by exact HT.out.later ((Below.refl _ _).alloc (Nat.le_refl _) _))).mono ?_
    rw [HF.out]
    rintro e w2 ⟨rfl, hb2⟩
    have hz0 : w2.cell? ⟨w.heap.size, 0, none⟩ = some (.string name) := (hb2.cell (by simp)).trans (by simp)
    have hz1 : w2.cell? ⟨w.heap.size, 1, none⟩ = some (.slice a n cap) := (hb2.cell (by simp)).trans (by simp)
    have hbw0 : Below w.heap.size w w2 := ((Below.refl _ _).alloc (Nat.le_refl _) _).trans (hb2.mono (by simp))
    have hsz0 : w.heap.size < w2.heap.size := by have := hb2.size; simp at this; omega
    have HB0 := Lib.hid hbw0
    clear hb2 hbw0
    have hnl := name_le HP.out.1
    have hns : name.size ≤ 64 := by simpa using hnl
    go_wp2_with fail
    refine (escape name w2 (by omega)).mono ?_
    rintro e w3 ⟨rfl, hb3⟩
    have hy1 : w3.cell? ⟨w.heap.size, 1, none⟩ = some (.slice a n cap) := (hb3.cell hsz0).trans hz1
    have HB3 := Lib.hid (HB0.out.trans (hb3.mono (Nat.le_of_lt hsz0)))
    have hsz3 : w.heap.size < w3.heap.size := Nat.lt_of_lt_of_le hsz0 hb3.size
    clear hb3 hz0 hz1
    go_wp2_with fail
    go_loopw [4, 16] (fun t i wr => InText n cap name a kf vf w t i wr) (fun _ i _ => n - (intOf i).toNat)
    case atStart => exact ⟨0, _, Nat.zero_le _, rfl, rfl, by simp [textTo], HB3.out, hsz3, hy1⟩
    case round =>
      clear hy1 hsz3 hsz0
      obtain ⟨k, acc, hk, rfl, rfl, hacc, hb, hsz, hc1⟩ := hrel
      have hal : acc.size ≤ 128 + 258 * k := by have := textTo_le HF.out hk; rw [hacc]; simpa [ByteArray.size] using this
      have HAC := Lib.hid hacc
      have HB := Lib.hid hb
      clear hacc hb
      by_cases hlt : k < n
      · obtain ⟨b, off, ha, hbw, hck, hcv⟩ := HT.out k hlt
        subst ha
        have hd1 : wr.cell? ⟨b, off + k * 2, none⟩ = some (.string (kf k)) := by rw [← hck]; exact HB.out.cell hbw
        have hd2 : wr.cell? ⟨b, off + k * 2 + 1, none⟩ = some (.string (vf k)) := by rw [← hcv]; exact HB.out.cell hbw
        have hbr : b < wr.heap.size := Nat.lt_of_lt_of_le hbw HB.out.size
        clear hck hcv
        obtain ⟨W, hW⟩ : ∃ W, W = wr.alloc (.cells #[.string (kf k), .string (vf k)] 82) := ⟨_, rfl⟩
        have f0 := cell_regrown (show W.cell? ⟨wr.heap.size, 0, none⟩ = some (.string (kf k)) by rw [hW]; simp)
        have f1 := cell_regrown (show W.cell? ⟨wr.heap.size, 1, none⟩ = some (.string (vf k)) by rw [hW]; simp)
        have HW := Lib.hid hW
        clear hW
        obtain ⟨nk, nv⟩ := HP.out.2 k hlt
        have lk := esc_name_le nk
        have lv := esc_name_le nv
        have sk := name_le nk
        have sv := name_le nv
        obtain ⟨ek, hek⟩ : ∃ ek : ByteArray, ek = ⟨(esc (kf k).data.toList).toArray⟩ := ⟨_, rfl⟩
        obtain ⟨ev, hev⟩ : ∃ ev : ByteArray, ev = ⟨(esc (vf k).data.toList).toArray⟩ := ⟨_, rfl⟩
        have zk : ek.size ≤ 128 := by rw [hek]; simpa [ByteArray.size] using lk
        have zv : ev.size ≤ 128 := by rw [hev]; simpa [ByteArray.size] using lv
        have ok : (kf k).size ≤ 70368744177664 := by have : (kf k).size ≤ 64 := by simpa using sk
                                                     omega
        have ov : (vf k).size ≤ 70368744177664 := by have : (vf k).size ≤ 64 := by simpa using sv
                                                     omega
        have cK := fun d os => Calls.regrown_of (v := .string ek) (by rw [hek]; exact escape (kf k) (grow (redrawn W d) os) ok)
        have cV := fun d os => Calls.regrown_of (v := .string ev) (by rw [hev]; exact escape (vf k) (grow (redrawn W d) os) ov)
        have HEK := Lib.hid (And.intro hek hev)
        clear hek hev nk nv lk lv sk sv ok ov
        go_wp2_with fail
        rw [← HW.out]
        refine wp_region_quiet_below (by kernel_rfl) (by kernel_rfl) ?_
        repeat (go_big_quiet_step ((first | with_reducible exact cK _ _ | with_reducible exact cV _ _)))
        refine wpQuiet_nil ?_
        intro w2 hw2
        have hb2 := below_of_regrown hw2
        have HB2 := Lib.hid hb2
        clear hw2 hb2
        go_wp2
        have HB3' := HB2.out
        rw [HW.out] at HB3'
        exact inText_next hlt HAC.out HEK.out.1 HEK.out.2 (by simp) HB.out hsz hc1 (((Below.refl _ _).alloc (Nat.le_refl _) _).trans (HB3'.mono (by simp)))
      · have hke : k = n := by omega
        have HAN := Lib.hid (show acc = ⟨(textTo name kf vf n).toArray⟩ by rw [← hke]; exact HAC.out)
        clear hke
        go_wp2_with fail
        go_ret2
        refine ⟨?_, HB.out⟩
        rw [HAN.out]
        simp [textB, HF.out]
set_option maxHeartbeats 1000000 in
theorem rtext (name : ByteArray) (a : Option Addr) (n cap : Nat) (kf vf : Nat → ByteArray) (w : World) (hn : n < 2 ^ 63) (hname : name.size ≤ maxLen) (hks : ∀ i, (kf i).size ≤ maxLen ∧ (vf i).size ≤ maxLen)
    (ht : TagsAt w a n kf vf) : Calls Tryz.prog 61 #[.agg #[.string name, .slice a n cap]] w (Answer (.tuple #[.string (textB name n kf vf).1, .int .i64 (textB name n kf vf).2]) w) := by
  have HT := Lib.hid ht
  have HK := Lib.hid hks
  have hn0 : Hid (name.size ≤ maxLen) := Lib.hid hname
  clear ht hks hname
  cases hf : formedB name n kf vf with
  | false =>
    have HF := Lib.hid hf
    clear hf
    go_enter Tryz.func61, Tryz.ntmps61
    go_wp2_with fail
    refine (rformed name a n cap kf vf _ hn hn0.out HK.out (by exact HT.out.later ((Below.refl _ _).alloc (Nat.le_refl _) _))).mono ?_
    rw [HF.out]
    rintro e w2 ⟨rfl, hb2⟩
    have HB2 := Lib.hid hb2
    clear hb2
    go_wp2_with fail
    go_ret2
    exact ⟨by simp [textB, HF.out], ((Below.refl _ _).alloc (Nat.le_refl _) _).trans (HB2.out.mono (by simp))⟩
  | true =>
    have HF := Lib.hid hf
    clear hf
    obtain ⟨hp1, hp2, hp3⟩ := formed_parts HF.out
    have HP := Lib.hid (And.intro hp1 hp3)
    clear hp1 hp3
    go_enter Tryz.func61, Tryz.ntmps61
    go_wp2_with fail
    refine (rformed name a n cap kf vf _ hn hn0.out HK.out (by exact HT.out.later ((Below.refl _ _).alloc (Nat.le_refl _) _))).mono ?_
    rw [HF.out]
    rintro e w2 ⟨rfl, hb2⟩
    have hz0 : w2.cell? ⟨w.heap.size, 0, none⟩ = some (.string name) := (hb2.cell (by simp)).trans (by simp)
    have hz1 : w2.cell? ⟨w.heap.size, 1, none⟩ = some (.slice a n cap) := (hb2.cell (by simp)).trans (by simp)
    have hbw0 : Below w.heap.size w w2 := ((Below.refl _ _).alloc (Nat.le_refl _) _).trans (hb2.mono (by simp))
    have hsz0 : w.heap.size < w2.heap.size := by have := hb2.size; simp at this; omega
    have HB0 := Lib.hid hbw0
    clear hb2 hbw0
    have hnl := name_le HP.out.1
    have hns : name.size ≤ 64 := by simpa using hnl
    go_wp2_with fail
    refine (rescape name w2 (by omega)).mono ?_
    rintro e w3 ⟨rfl, hb3⟩
    have hy1 : w3.cell? ⟨w.heap.size, 1, none⟩ = some (.slice a n cap) := (hb3.cell hsz0).trans hz1
    have HB3 := Lib.hid (HB0.out.trans (hb3.mono (Nat.le_of_lt hsz0)))
    have hsz3 : w.heap.size < w3.heap.size := Nat.lt_of_lt_of_le hsz0 hb3.size
    clear hb3 hz0 hz1
    go_wp2_with fail
    go_loopw [4, 15] (fun t i wr => InText n cap name a kf vf w t i wr) (fun _ i _ => n - (intOf i).toNat)
    case atStart => exact ⟨0, _, Nat.zero_le _, rfl, rfl, by simp [textTo], HB3.out, hsz3, hy1⟩
    case round =>
      clear hy1 hsz3 hsz0
      obtain ⟨k, acc, hk, rfl, rfl, hacc, hb, hsz, hc1⟩ := hrel
      have hal : acc.size ≤ 128 + 258 * k := by have := textTo_le HF.out hk; rw [hacc]; simpa [ByteArray.size] using this
      have HAC := Lib.hid hacc
      have HB := Lib.hid hb
      clear hacc hb
      by_cases hlt : k < n
      · obtain ⟨b, off, ha, hbw, hck, hcv⟩ := HT.out k hlt
        subst ha
        have hd1 : wr.cell? ⟨b, off + k * 2, none⟩ = some (.string (kf k)) := by rw [← hck]; exact HB.out.cell hbw
        have hd2 : wr.cell? ⟨b, off + k * 2 + 1, none⟩ = some (.string (vf k)) := by rw [← hcv]; exact HB.out.cell hbw
        have hi0 : (0 : Int) ≤ (k : Int) := by omega
        have hi1 : (k : Int) < (n : Int) := by omega
        clear hck hcv
        have f0 := cell_regrown hd1
        have f1 := cell_regrown hd2
        have f2 := cell_regrown hc1
        clear hd1 hd2
        obtain ⟨nk, nv⟩ := HP.out.2 k hlt
        have lk := esc_name_le nk
        have lv := esc_name_le nv
        have sk := name_le nk
        have sv := name_le nv
        obtain ⟨ek, hek⟩ : ∃ ek : ByteArray, ek = ⟨(esc (kf k).data.toList).toArray⟩ := ⟨_, rfl⟩
        obtain ⟨ev, hev⟩ : ∃ ev : ByteArray, ev = ⟨(esc (vf k).data.toList).toArray⟩ := ⟨_, rfl⟩
        have zk : ek.size ≤ 128 := by rw [hek]; simpa [ByteArray.size] using lk
        have zv : ev.size ≤ 128 := by rw [hev]; simpa [ByteArray.size] using lv
        have ok : (kf k).size ≤ 70368744177664 := by have : (kf k).size ≤ 64 := by simpa using sk
                                                     omega
        have ov : (vf k).size ≤ 70368744177664 := by have : (vf k).size ≤ 64 := by simpa using sv
                                                     omega
        have cK := fun d os => Calls.regrown_of (v := .string ek) (by rw [hek]; exact rescape (kf k) (grow (redrawn wr d) os) ok)
        have cV := fun d os => Calls.regrown_of (v := .string ev) (by rw [hev]; exact rescape (vf k) (grow (redrawn wr d) os) ov)
        have HEK := Lib.hid (And.intro hek hev)
        clear hek hev nk nv lk lv sk sv ok ov
        go_wp2_with fail
        refine wp_region_quiet_below (by kernel_rfl) (by kernel_rfl) ?_
        repeat (go_big_quiet_step ((first | with_reducible exact cK _ _ | with_reducible exact cV _ _)))
        refine wpQuiet_nil ?_
        intro w2 hw2
        have hb2 := below_of_regrown hw2
        have HB2 := Lib.hid hb2
        clear hw2 hb2
        go_wp2
        exact inText_next hlt HAC.out HEK.out.1 HEK.out.2 (by simp) HB.out hsz hc1 HB2.out
      · have hke : k = n := by omega
        have HAN := Lib.hid (show acc = ⟨(textTo name kf vf n).toArray⟩ by rw [← hke]; exact HAC.out)
        clear hke
        go_wp2_with fail
        go_ret2
        refine ⟨?_, HB.out⟩
        rw [HAN.out]
        simp [textB, HF.out]
end Go.Proofs.YtagiddbfhlokcaaGreatDoor.Ser
/- Two series are the same, by the reference; and the law's waking question. Condition: texts' lengths are numbers of Go's int. -/
namespace Go.Proofs.YtagiddbfhlokcaaGreatDoor.Ser
open Go.RowKit Go.Sort
def tagEq (kf vf kg vg : Nat → ByteArray) (i : Nat) : Bool := (kf i).toList == (kg i).toList && (vf i).toList == (vg i).toList
def sameB (name name' : ByteArray) (n n' : Nat) (kf vf kg vg : Nat → ByteArray) : Bool := (name.toList == name'.toList) && (decide (n = n') && (List.range n).all (tagEq kf vf kg vg))
theorem sameB_bad {name name' : ByteArray} {n k : Nat} {kf vf kg vg : Nat → ByteArray} (hk : k < n) (h : tagEq kf vf kg vg k = false) : sameB name name' n n kf vf kg vg = false := by
  have : (List.range n).all (tagEq kf vf kg vg) = false := by
    rw [List.all_eq_false]
    exact ⟨k, by simpa using hk, by simp [h]⟩
  simp [sameB, this]
def InSame (n cap cap' : Nat) (a a' : Option Addr) (kf vf kg vg : Nat → ByteArray) (w : World) (i : Value) (wr : World) : Prop :=
  ∃ k : Nat, k ≤ n ∧ i = .int .i64 k ∧ (List.range k).all (tagEq kf vf kg vg) = true ∧ Below w.heap.size w wr ∧ wr.cell? ⟨w.heap.size, 1, none⟩ = some (.slice a n cap) ∧ wr.cell? ⟨w.heap.size + 1, 1, none⟩ = some (.slice a' n cap')
theorem same (name name' : ByteArray) (a a' : Option Addr) (n n' cap cap' : Nat) (kf vf kg vg : Nat → ByteArray) (w : World) (hn : n < 2 ^ 63)
    (ht : TagsAt w a n kf vf) (ht' : TagsAt w a' n' kg vg) : Calls Tryz.prog 32 #[.agg #[.string name, .slice a n cap], .agg #[.string name', .slice a' n' cap']] w (Answer (.bool (sameB name name' n n' kf vf kg vg)) w) := by
  have HT := Lib.hid ht
  have HT' := Lib.hid ht'
  clear ht ht'
  have hbb : Below w.heap.size w ((w.alloc (.cells #[.string name, .slice a n cap] 24)).alloc (.cells #[.string name', .slice a' n' cap'] 24)) := (((Below.refl _ _).alloc (Nat.le_refl _) _).alloc (by simp) _)
  have HBB := Lib.hid hbb
  clear hbb
  cases e0 : (name.toList == name'.toList) with
  | false =>
    have hne : (!(name.toList == name'.toList)) = true := by rw [e0]; rfl
    have HE := Lib.hid e0
    clear e0
    go_enter Tryz.func32, Tryz.ntmps32
    go_wp2
    go_ret
    exact ⟨ret_bool (by simp [sameB, HE.out]), HBB.out⟩
  | true =>
  by_cases hnn : n = n'
  · subst hnn
    have HE := Lib.hid e0
    have hne : (!(name.toList == name'.toList)) = false := by rw [e0]; rfl
    clear e0
    go_enter Tryz.func32, Tryz.ntmps32
    go_wp2
    go_loopw [23] (fun i wr => InSame n cap cap' a a' kf vf kg vg w i wr) (fun i _ => n - (intOf i).toNat)
    case atStart => exact ⟨0, Nat.zero_le _, rfl, rfl, HBB.out, by simp, by simp⟩
    case round =>
      obtain ⟨k, hk, rfl, hall, hb, hc0, hc1⟩ := hrel
      have HA := Lib.hid hall
      have HB := Lib.hid hb
      clear hall hb
      by_cases hlt : k < n
      · obtain ⟨b, off, ha, hbw, hck, hcv⟩ := HT.out k hlt
        obtain ⟨b', off', ha', hbw', hck', hcv'⟩ := HT'.out k hlt
        subst ha
        subst ha'
        have hd1 : wr.cell? ⟨b, off + k * 2, none⟩ = some (.string (kf k)) := by rw [← hck]; exact HB.out.cell hbw
        have hd2 : wr.cell? ⟨b, off + k * 2 + 1, none⟩ = some (.string (vf k)) := by rw [← hcv]; exact HB.out.cell hbw
        have hd3 : wr.cell? ⟨b', off' + k * 2, none⟩ = some (.string (kg k)) := by rw [← hck']; exact HB.out.cell hbw'
        have hd4 : wr.cell? ⟨b', off' + k * 2 + 1, none⟩ = some (.string (vg k)) := by rw [← hcv']; exact HB.out.cell hbw'
        clear hck hcv hck' hcv'
        have hi0 : (0 : Int) ≤ (k : Int) := by omega
        have hi1 : (k : Int) < (n : Int) := by omega
        cases e1 : ((kf k).toList == (kg k).toList) with
        | false =>
          have HT1 := Lib.hid (show tagEq kf vf kg vg k = false by simp [tagEq, e1])
          go_wp2_with fail
          go_quiet (fail)
          go_wp2
          go_ret
          exact ⟨ret_bool (sameB_bad hlt HT1.out).symm, below_drewN HB.out _⟩
        | true =>
          cases e2 : ((vf k).toList == (vg k).toList) with
          | false =>
            have HT1 := Lib.hid (show tagEq kf vf kg vg k = false by simp [tagEq, e2])
            go_wp2_with fail
            go_quiet (fail)
            go_wp2
            go_ret
            exact ⟨ret_bool (sameB_bad hlt HT1.out).symm, below_drewN HB.out _⟩
          | true =>
            have HT1 := Lib.hid (show tagEq kf vf kg vg k = true by simp only [tagEq, e1, e2]; rfl)
            go_wp2_with fail
            go_quiet (fail)
            go_wp2
            go_roundw
            case rel => exact ⟨k + 1, hlt, by go_num, by rw [List.range_succ, List.all_append, HA.out]; simp [HT1.out], below_drewN HB.out _, hc0, hc1⟩
            case measure => simp [intOf]; omega
      · have hke : k = n := by omega
        have HAn := Lib.hid (show (List.range n).all (tagEq kf vf kg vg) = true by rw [← hke]; exact HA.out)
        clear hke
        go_wp2
        go_ret
        exact ⟨ret_bool (by simp [sameB, HAn.out, HE.out]), HB.out⟩
  · have HE := Lib.hid e0
    have hn1 : ((n : Int) != (n' : Int)) = true := by rw [bne_iff_ne]; omega
    have HN := Lib.hid hnn
    clear hnn
    go_enter Tryz.func32, Tryz.ntmps32
    go_wp2
    go_ret
    exact ⟨ret_bool (by simp [sameB, HN.out]), HBB.out⟩
end Go.Proofs.YtagiddbfhlokcaaGreatDoor.Ser
/- Two rows that hold the same are the same, by the reference. Condition: numbers of tags and fields. -/
namespace Go.Proofs.YtagiddbfhlokcaaGreatDoor.Ser
open Go.RowKit Go.Sort
set_option maxRecDepth 100000
theorem sameB_self (name : ByteArray) (n : Nat) (kf vf : Nat → ByteArray) : sameB name name n n kf vf kf vf = true := by
  unfold sameB tagEq
  simp
def InSm (L : List Fd) (a a' fa fa' : Option Addr) (name : ByteArray) (n c c' fc fc' : Nat) (tm : Int) (w : World) (i : Value) (wr : World) : Prop :=
  ∃ k : Nat, k ≤ L.length ∧ i = .int .i64 k ∧ Below w.heap.size w wr ∧ w.heap.size + 1 < wr.heap.size ∧ wr.cell? ⟨w.heap.size, 2, none⟩ = some (.slice fa L.length fc) ∧ wr.cell? ⟨w.heap.size + 1, 2, none⟩ = some (.slice fa' L.length fc')
set_option maxHeartbeats 4000000 in
theorem same13 (name : ByteArray) (a a' fa fa' : Option Addr) (n c c' fc fc' : Nat) (tm : Int) (kf vf : Nat → ByteArray) (L : List Fd) (w : World) (hn : n < 2 ^ 63) (hl : L.length < 2 ^ 62)
    (ht : TagsAt w a n kf vf) (ht' : TagsAt w a' n kf vf) (hf : FieldsAt w fa L) (hf' : FieldsAt w fa' L) :
    Calls Tryz.prog 13 #[.agg #[.string name, .slice a n c, .slice fa L.length fc, .int .i64 tm], .agg #[.string name, .slice a' n c', .slice fa' L.length fc', .int .i64 tm]] w (Answer (.bool true) w) := by
  have hbb : Below w.heap.size w ((w.alloc (.cells #[.string name, .slice a n c, .slice fa L.length fc, .int .i64 tm] 27)).alloc (.cells #[.string name, .slice a' n c', .slice fa' L.length fc', .int .i64 tm] 27)) := (((Below.refl _ _).alloc (Nat.le_refl _) _).alloc (by simp) _)
  have HF := Lib.hid hf
  have HF' := Lib.hid hf'
  have HBB := Lib.hid hbb
  obtain ⟨nl, hnl⟩ : ∃ m, L.length = m := ⟨_, rfl⟩
  have M32 := Lib.hid (fun w2 (h : Below w.heap.size w w2) => same name name a a' n n c c' kf vf kf vf w2 hn (fun i hi => by
    obtain ⟨b, off, h1, h2, h3, h4⟩ := ht i hi
    exact ⟨b, off, h1, Nat.lt_of_lt_of_le h2 h.size, by rw [← h3]; exact h.cell h2, by rw [← h4]; exact h.cell h2⟩) (fun i hi => by
    obtain ⟨b, off, h1, h2, h3, h4⟩ := ht' i hi
    exact ⟨b, off, h1, Nat.lt_of_lt_of_le h2 h.size, by rw [← h3]; exact h.cell h2, by rw [← h4]; exact h.cell h2⟩))
  rw [sameB_self] at M32
  have hl2 : nl < 2 ^ 62 := by omega
  rw [hnl] at HBB ⊢
  have HNL := Lib.hid hnl
  clear hbb ht ht' hf hf' hnl hl
  go_enter Tryz.func13, Tryz.ntmps13
  go_upto_region 1 with (fail)
  refine wp_gen (fun wx => Below w.heap.size w wx ∧ wx.heap[w.heap.size]? = some (.cells #[.string name, .slice a n c, .slice fa nl fc, .int .i64 tm] 27 (0, 0)) ∧ wx.heap[w.heap.size + 1]? = some (.cells #[.string name, .slice a' n c', .slice fa' nl fc', .int .i64 tm] 27 (0, 0))) ⟨HBB.out, ?_, ?_⟩ ?_
  · exact (Below.heap_alloc _ _ _ (by simp)).trans (newest _ _)
  · have := newest (w.alloc (.cells #[.string name, .slice a n c, .slice fa nl fc, .int .i64 tm] 27)) (.cells #[.string name, .slice a' n c', .slice fa' nl fc', .int .i64 tm] 27 (0, 0))
    rw [show (w.alloc (.cells #[.string name, .slice a n c, .slice fa nl fc, .int .i64 tm] 27)).heap.size = w.heap.size + 1 by simp] at this
    exact this
  rintro w1 ⟨hb1, hk0, hk1⟩
  have c0 : w1.cell? ⟨w.heap.size, 0, none⟩ = some (.string name) := Lib.cell_of_heap hk0 0
  have c1 : w1.cell? ⟨w.heap.size, 1, none⟩ = some (.slice a n c) := Lib.cell_of_heap hk0 1
  have d0 : w1.cell? ⟨w.heap.size + 1, 0, none⟩ = some (.string name) := Lib.cell_of_heap hk1 0
  have d1 : w1.cell? ⟨w.heap.size + 1, 1, none⟩ = some (.slice a' n c') := Lib.cell_of_heap hk1 1
  have HB1 := Lib.hid hb1
  have HK0 := Lib.hid hk0
  have HK1 := Lib.hid hk1
  clear hb1 hk0 hk1 HBB
  go_wp2_with fail
  refine (M32.out w1 HB1.out).mono ?_
  rintro e w2 ⟨rfl, hb2⟩
  have hk0 := (hb2.block _ (lt_of_block HK0.out)).trans HK0.out
  have hk1 := (hb2.block _ (lt_of_block HK1.out)).trans HK1.out
  have c2 : w2.cell? ⟨w.heap.size, 2, none⟩ = some (.slice fa nl fc) := Lib.cell_of_heap hk0 2
  have c3 : w2.cell? ⟨w.heap.size, 3, none⟩ = some (.int .i64 tm) := Lib.cell_of_heap hk0 3
  have d2 : w2.cell? ⟨w.heap.size + 1, 2, none⟩ = some (.slice fa' nl fc') := Lib.cell_of_heap hk1 2
  have d3 : w2.cell? ⟨w.heap.size + 1, 3, none⟩ = some (.int .i64 tm) := Lib.cell_of_heap hk1 3
  have HB2 := Lib.hid (HB1.out.trans (hb2.mono HB1.out.size))
  have HS2 := Lib.hid (lt_of_block hk1)
  clear hb2 hk0 hk1 c0 c1 d0 d1
  go_wp2_with fail
  have HC2 := Lib.hid c2
  have HD2 := Lib.hid d2
  clear c2 c3 d2 d3
  go_loopw [31] (fun i wx => InSm L a a' fa fa' name n c c' fc fc' tm w i wx) (fun i _ => nl - (intOf i).toNat)
  case atStart => exact ⟨0, Nat.zero_le _, rfl, HB2.out, HS2.out, by rw [HNL.out]; exact HC2.out, by rw [HNL.out]; exact HD2.out⟩
  case round =>
    obtain ⟨k, hk, rfl, hb, hsz, c2, d2⟩ := hrel
    rw [HNL.out] at hk c2 d2
    have HB := Lib.hid hb
    have HSZ := Lib.hid hsz
    by_cases hlt : k < nl
    · obtain ⟨b, off, ha, hbw, e0, e1, e2, e3⟩ := HF.out k (by rw [HNL.out]; exact hlt)
      obtain ⟨b', off', ha', hbw', e0', e1', e2', e3'⟩ := HF'.out k (by rw [HNL.out]; exact hlt)
      subst ha ha'
      have g0 := (hb.cell (p := ⟨b, off + k * 4, none⟩) hbw).trans e0
      have g1 := (hb.cell (p := ⟨b, off + k * 4 + 1, none⟩) hbw).trans e1
      have g2 := (hb.cell (p := ⟨b, off + k * 4 + 2, none⟩) hbw).trans e2
      have g3 := (hb.cell (p := ⟨b, off + k * 4 + 3, none⟩) hbw).trans e3
      have g0' := (hb.cell (p := ⟨b', off' + k * 4, none⟩) hbw').trans e0'
      have g1' := (hb.cell (p := ⟨b', off' + k * 4 + 1, none⟩) hbw').trans e1'
      have g2' := (hb.cell (p := ⟨b', off' + k * 4 + 2, none⟩) hbw').trans e2'
      have g3' := (hb.cell (p := ⟨b', off' + k * 4 + 3, none⟩) hbw').trans e3'
      obtain ⟨⟨ky, vk, vb, vt⟩, hfe⟩ : ∃ f, fE L k = f := ⟨_, rfl⟩
      rw [hfe] at g0 g1 g2 g3 g0' g1' g2' g3'
      simp only at g0 g1 g2 g3 g0' g1' g2' g3'
      have hkz : (k : Int) < (nl : Int) := by omega
      have HLT := Lib.hid hlt
      have HC := Lib.hid c2
      have HD := Lib.hid d2
      clear hb hbw hbw' e0 e1 e2 e3 e0' e1' e2' e3' hfe hk hsz
      go_wp2_with fail
      go_quiet (fail)
      go_wp2_with fail
      refine ⟨⟨k + 1, by rw [HNL.out]; exact HLT.out, by go_num, below_drewN HB.out _, HSZ.out, by rw [HNL.out]; exact HC.out, by rw [HNL.out]; exact HD.out⟩, ?_⟩
      simp [intOf]; omega
    · have hkz : ¬ (k : Int) < (nl : Int) := by omega
      clear hb hlt hk hsz
      go_wp2_with fail
      go_ret
      exact ⟨rfl, HB.out⟩
end Go.Proofs.YtagiddbfhlokcaaGreatDoor.Ser
/- A world that holds what the row lists: the row's witness; the cells of the two tables of powers out of the row's condition. No condition. -/
namespace Go.Proofs.YtagiddbfhlokcaaGreatDoor.Laid
def lst : List (String × DataW Unit) := Rows.valueParsesRow.laid
set_option maxRecDepth 100000 in
theorem fits (os : Os) : (World.holding Tryz.prog os ⟨#[], #[], []⟩).layFits Tryz.prog lst [] = true := by kernel_rfl
set_option maxRecDepth 100000 in
theorem ifaces (os : Os) : (World.holding Tryz.prog os ⟨#[], #[], []⟩).layIfaces Tryz.prog lst (World.laidAll Tryz.prog os lst) = true := by kernel_rfl
set_option maxRecDepth 100000 in
theorem plain : (lst.all fun x => x.2.handleName?.isNone) = true := by kernel_rfl
theorem met (os : Os) (args : Array Value) : laidMetH Tryz.prog lst ((World.laidAll Tryz.prog os lst).forCall (fun _ _ => 0) ⟨#[], args, []⟩).memory := by
  rw [MakeChecks.laidMetH_plain _ _ _ plain]
  exact laidMet_laidAll _ (fits os) (ifaces os)
set_option maxRecDepth 100000 in
theorem zipB (os : Os) (args : Array Value) : ((World.laidAll Tryz.prog os lst).forCall (fun _ _ => 0) ⟨#[], args, []⟩).variablesZipB Tryz.prog = true := by kernel_rfl
set_option maxRecDepth 100000 in
theorem dropB (os : Os) (args : Array Value) : (((World.laidAll Tryz.prog os lst).forCall (fun _ _ => 0) ⟨#[], args, []⟩).heap.toList.drop Tryz.prog.globals.size).take ((begin Tryz.prog (fun _ _ => 0) default).world.heap.size - Tryz.prog.globals.size) =
      (begin Tryz.prog (fun _ _ => 0) default).world.heap.toList.drop Tryz.prog.globals.size := by kernel_rfl
theorem shaped (os : Os) (args : Array Value) : ((World.laidAll Tryz.prog os lst).forCall (fun _ _ => 0) ⟨#[], args, []⟩).Shaped Tryz.prog := World.shaped_of_ZipB (zipB os args) (dropB os args)
end Go.Proofs.YtagiddbfhlokcaaGreatDoor.Laid
/- The tables of strconv out of the row's condition: cells. No condition. -/
namespace Go.Proofs.YtagiddbfhlokcaaGreatDoor
open Go.RowKit Go.WideShapes Go.ChangeShapes Go.Deep
set_option maxRecDepth 100000
theorem slice_cells {W : World} {t e : TypeId} {c fuel : Nat} {cs : List Value} {xs : List (DataW Unit)} {p : List MemPlace} (ht : Tryz.prog.underlying t = some (.slice e)) (hc : Tryz.prog.cellsOf e = c) (hc0 : 0 < c) (hx : xs ≠ [])
    (h : DataW.trod (fun _ => ()) Tryz.prog W 0 (fun _ => true) false fuel t cs = some (.slice xs [], p)) :
    ∃ (B o n : Nat), cs = [.slice (some ⟨B, o, none⟩) xs.length xs.length] ∧ ∀ i (hi : i < xs.length), ∃ cs' p', (List.range c).mapM (fun j => W.cell? ⟨B, o + i * c + j, none⟩) = some cs' ∧ DataW.trod (fun _ => ()) Tryz.prog W 0 (fun _ => true) false n e cs' = some (xs[i], p') := by
  rcases DataW.trod_slice ht h with ⟨_, hh⟩ | ⟨a, len, cap, elems, rest, n, _, rfl, hh, _, hle, _, hel, hf, hsp, _⟩
  · cases hh
  · simp only [Prod.mk.injEq, DataW.slice.injEq] at hh
    obtain ⟨⟨h1, h2⟩, _⟩ := hh
    have hr : rest = [] := by
      cases rest with
      | nil => rfl
      | cons a b => cases h2
    have hrl := (hsp rfl).1
    rw [hr] at hrl
    have hcap : cap = len := by simp at hrl; omega
    have hlen : xs.length = len := by rw [h1, List.length_map]; exact hel
    have key : ∀ i (hi : i < xs.length), ∃ cs' p', (List.range c).mapM (fun j => W.cell? ((a.add (i * c)).add j)) = some cs' ∧ DataW.trod (fun _ => ()) Tryz.prog W 0 (fun _ => true) false n e cs' = some (xs[i], p') := by
      intro i hi
      have h3 := hf i (by omega)
      rw [hc] at h3
      have hel2 : elems[i]? = some (elems[i]'(by omega)) := List.getElem?_eq_getElem (by omega)
      rw [hel2, Option.bind_eq_some_iff] at h3
      obtain ⟨cs', h4, h5⟩ := h3
      unfold World.cells? at h4
      rw [if_pos (Nat.zero_le _)] at h4
      refine ⟨cs', (elems[i]'(by omega)).2, h4, ?_⟩
      rw [h5]
      congr 1
      have : xs[i] = (elems[i]'(by omega)).1 := by simp [h1]
      rw [this]
    have hsp2 : a.spot = none := by
      obtain ⟨cs', p', h4, _⟩ := key 0 (List.length_pos_iff.2 hx)
      have h6 : ∃ v, W.cell? ((a.add (0 * c)).add 0) = some v := by
        obtain ⟨c', rfl⟩ : ∃ c', c = c' + 1 := ⟨c - 1, by omega⟩
        rw [List.range_succ_eq_map] at h4
        simp only [List.mapM_cons, Option.bind_eq_bind, Option.bind_eq_some_iff] at h4
        obtain ⟨v, hv, _⟩ := h4
        exact ⟨v, hv⟩
      obtain ⟨v, hv⟩ := h6
      rw [Nat.zero_mul] at hv
      exact World.cell?_spot (by simpa [Addr.add] using hv)
    obtain ⟨B, o, sp⟩ := a
    simp only at hsp2
    subst hsp2
    refine ⟨B, o, n, by rw [hlen, hcap], fun i hi => ?_⟩
    obtain ⟨cs', p', h4, h5⟩ := key i hi
    refine ⟨cs', p', ?_, h5⟩
    rw [← h4]
    congr 1
    funext j
    rw [Addr.add_lit, Addr.add_lit]
theorem trod_float {W : World} {t : TypeId} {k : FloatKind} {fuel : Nat} {cs : List Value} {x : DataW Unit × List MemPlace} (ht : Tryz.prog.underlying t = some (.float k)) (h : DataW.trod (fun _ => ()) Tryz.prog W 0 (fun _ => true) false fuel t cs = some x) : ∃ b, cs = [.float k b] ∧ x.1 = .lit (.float k b) := by
  cases fuel with
  | zero => simp [DataW.trod] at h
  | succ n =>
    unfold DataW.trod at h
    rw [ht] at h
    split at h <;> simp_all
    obtain ⟨_, rfl⟩ := h
    rfl
theorem one_of {W : World} {B o : Nat} {cs : List Value} {v : Value} (h : (List.range 1).mapM (fun j => W.cell? ⟨B, o + j, none⟩) = some cs) (hv : cs = [v]) : W.cell? ⟨B, o, none⟩ = some v := by
  subst hv
  simp [List.range_succ_eq_map] at h
  cases hh : W.cell? ⟨B, o, none⟩ with
  | none => rw [hh] at h; cases h
  | some u => rw [hh] at h; simpa using h
theorem two_of {W : World} {B o : Nat} {cs : List Value} {u v : Value} (h : (List.range 2).mapM (fun j => W.cell? ⟨B, o + j, none⟩) = some cs) (hv : cs = [u, v]) : W.cell? ⟨B, o, none⟩ = some u ∧ W.cell? ⟨B, o + 1, none⟩ = some v := by
  subst hv
  simp [List.range_succ_eq_map] at h
  cases hh : W.cell? ⟨B, o, none⟩ with
  | none => rw [hh] at h; cases h
  | some a =>
    cases h2 : W.cell? ⟨B, o + 1, none⟩ with
    | none => rw [hh, h2] at h; cases h
    | some b => rw [hh, h2] at h; simpa using h
/-- Whole numbers in a slice. -/
theorem ints_of {W : World} {t : TypeId} {fuel : Nat} {cs : List Value} {zs : List Int} {p : List MemPlace} (ht : Tryz.prog.underlying t = some (.slice 3)) (hx : zs ≠ [])
    (h : DataW.trod (fun _ => ()) Tryz.prog W 0 (fun _ => true) false fuel t cs = some (.slice (zs.map fun z => .lit (.int .i64 z)) [], p)) :
    ∃ (B o : Nat), cs = [.slice (some ⟨B, o, none⟩) zs.length zs.length] ∧ ∀ i (hi : i < zs.length), W.cell? ⟨B, o + i, none⟩ = some (.int .i64 zs[i]) := by
  obtain ⟨B, o, n, hcs, hf⟩ := slice_cells ht (by kernel_rfl : Tryz.prog.cellsOf 3 = 1) (by omega) (by simpa using hx) h
  refine ⟨B, o, by rw [hcs, List.length_map], fun i hi => ?_⟩
  obtain ⟨cs', p', h1, h2⟩ := hf i (by rw [List.length_map]; exact hi)
  obtain ⟨m, h3, h4, _⟩ := DataW.trod_int Tryz.underlying3 h2
  rw [Nat.mul_one] at h1
  have h5 := one_of h1 h3
  simp at h4
  rw [h5, h4.1]
/-- Floats in a slice. -/
theorem floats_of {W : World} {t : TypeId} {fuel : Nat} {cs : List Value} {zs : List Nat} {p : List MemPlace} (ht : Tryz.prog.underlying t = some (.slice 99)) (hx : zs ≠ [])
    (h : DataW.trod (fun _ => ()) Tryz.prog W 0 (fun _ => true) false fuel t cs = some (.slice (zs.map fun z => .lit (.float .f64 z)) [], p)) :
    ∃ (B o : Nat), cs = [.slice (some ⟨B, o, none⟩) zs.length zs.length] ∧ ∀ i (hi : i < zs.length), W.cell? ⟨B, o + i, none⟩ = some (.float .f64 zs[i]) := by
  obtain ⟨B, o, n, hcs, hf⟩ := slice_cells ht (by kernel_rfl : Tryz.prog.cellsOf 99 = 1) (by omega) (by simpa using hx) h
  refine ⟨B, o, by rw [hcs, List.length_map], fun i hi => ?_⟩
  obtain ⟨cs', p', h1, h2⟩ := hf i (by rw [List.length_map]; exact hi)
  obtain ⟨m, h3, h4⟩ := trod_float Tryz.underlying99 h2
  rw [Nat.mul_one] at h1
  have h5 := one_of h1 h3
  simp at h4
  rw [h5, h4]
/-- Pairs of a number and a text, in a slice. -/
theorem cheats_of {W : World} {fuel : Nat} {cs : List Value} {zs : List (Nat × List UInt8)} {p : List MemPlace} (hx : zs ≠ [])
    (h : DataW.trod (fun _ => ()) Tryz.prog W 0 (fun _ => true) false fuel 343 cs = some (.slice (zs.map fun x => .agg [.lit (.int .i64 x.1), .lit (.string x.2)]) [], p)) :
    ∃ (B o : Nat), cs = [.slice (some ⟨B, o, none⟩) zs.length zs.length] ∧ ∀ i (hi : i < zs.length), W.cell? ⟨B, o + i * 2, none⟩ = some (.int .i64 zs[i].1) ∧ W.cell? ⟨B, o + i * 2 + 1, none⟩ = some (.string ⟨zs[i].2.toArray⟩) := by
  obtain ⟨B, o, n, hcs, hf⟩ := slice_cells Tryz.underlying343 (by kernel_rfl : Tryz.prog.cellsOf 342 = 2) (by omega) (by simpa using hx) h
  refine ⟨B, o, by rw [hcs, List.length_map], fun i hi => ?_⟩
  obtain ⟨cs', p', h1, h2⟩ := hf i (by rw [List.length_map]; exact hi)
  obtain ⟨y0, y1, k, h3, hl, e0, e1⟩ := trod_struct2 Tryz.underlying342 h2
  have c3 : Tryz.prog.cellsOf 3 = 1 := by kernel_rfl
  have c9 : Tryz.prog.cellsOf 9 = 1 := by kernel_rfl
  simp only [c3, c9] at e0 e1
  obtain ⟨a, g0, rfl, _⟩ := DataW.trod_int Tryz.underlying3 e0
  obtain ⟨s, g1, rfl, _⟩ := DataW.trod_string Tryz.underlying9 e1
  simp at h3
  obtain ⟨⟨h4, h5⟩, _⟩ := h3
  have hcs2 : cs' = [.int .i64 a, .string s] := by
    rw [show Tryz.prog.cellsOf 342 = 2 by kernel_rfl] at hl
    match cs', hl with
    | [u, v], _ => simp at g0 g1; rw [g0, g1]
  obtain ⟨h6, h7⟩ := two_of h1 hcs2
  refine ⟨by rw [h6, h4], ?_⟩
  rw [h7]
  congr 2
  rw [h5]
  
theorem laid_head {n : String} {d : DataW Unit} {r : List (String × DataW Unit)} {W : World} {g : Nat} {t : TypeId} (h : laidMet Tryz.prog ((n, d) :: r) W) (hg : Tryz.prog.globalNamed n = some g) (ht : (Tryz.prog.globals[g]?).map (·.type) = some t) :
    ∃ (cs : List Value) (fuel : Nat) (p : List MemPlace), DataW.trod (fun _ => ()) Tryz.prog W 0 (fun _ => true) false fuel t cs = some (d, p) ∧ ∀ i, W.cell? ⟨g, i, none⟩ = cs[i]? := by
  obtain ⟨ps, ⟨g', t', cs, fuel, p, q, hg', ht', hvar, hd, _, _⟩, _⟩ := h
  obtain rfl := Option.some.inj (hg.symm.trans hg')
  obtain rfl := Option.some.inj (ht.symm.trans ht')
  refine ⟨cs.toList, fuel, p, hd, fun i => ?_⟩
  rw [World.var?_cell hg hvar i]
  simp
theorem lst_met {W : World} (h : laidMetH Tryz.prog Laid.lst W) : laidMet Tryz.prog Laid.lst W := by
  rw [MakeChecks.laidMetH_plain _ _ _ Laid.plain] at h
  exact h
theorem drop_met {W : World} (k : Nat) (hk : k ≤ 14) (h : laidMet Tryz.prog Laid.lst W) : laidMet Tryz.prog (Laid.lst.drop k) W := by
  match k, hk with
  | 0, _ => exact h
  | 1, _ => exact h.tail
  | 2, _ => exact h.tail.tail
  | 3, _ => exact h.tail.tail.tail
  | 4, _ => exact h.tail.tail.tail.tail
  | 5, _ => exact h.tail.tail.tail.tail.tail
  | 6, _ => exact h.tail.tail.tail.tail.tail.tail
  | 7, _ => exact h.tail.tail.tail.tail.tail.tail.tail
  | 8, _ => exact h.tail.tail.tail.tail.tail.tail.tail.tail
  | 9, _ => exact h.tail.tail.tail.tail.tail.tail.tail.tail.tail
  | 10, _ => exact h.tail.tail.tail.tail.tail.tail.tail.tail.tail.tail
  | 11, _ => exact h.tail.tail.tail.tail.tail.tail.tail.tail.tail.tail.tail
  | 12, _ => exact h.tail.tail.tail.tail.tail.tail.tail.tail.tail.tail.tail.tail
  | 13, _ => exact h.tail.tail.tail.tail.tail.tail.tail.tail.tail.tail.tail.tail.tail
  | 14, _ => exact h.tail.tail.tail.tail.tail.tail.tail.tail.tail.tail.tail.tail.tail.tail
theorem info_of {W : World} (h : laidMet Tryz.prog Laid.lst W) : W.cell? ⟨7, 0, none⟩ = some (.int .u64 52) ∧ W.cell? ⟨7, 1, none⟩ = some (.int .u64 11) ∧ W.cell? ⟨7, 2, none⟩ = some (.int .i64 (-1023)) := by
  have h3 := drop_met 3 (by omega) h
  obtain ⟨cs, fuel, p, hd, hc⟩ := laid_head (n := "internal/strconv.float64info") (d := Rows.laid_internal_strconv_float64info) (r := Laid.lst.drop 4) (g := 7) (t := 258) h3 (by kernel_rfl) (by kernel_rfl)
  obtain ⟨y0, y1, y2, k, hx, hl, e0, e1, e2⟩ := trod_struct3 Tryz.underlying258 hd
  rw [show Tryz.prog.cellsOf 258 = 3 by kernel_rfl] at hl
  obtain ⟨a, b, c, rfl⟩ : ∃ a b c, cs = [a, b, c] := by
    match cs, hl with
    | [a, b, c], _ => exact ⟨a, b, c, rfl⟩
  have c60 : Tryz.prog.cellsOf 60 = 1 := by kernel_rfl
  have c3 : Tryz.prog.cellsOf 3 = 1 := by kernel_rfl
  simp only [c60, c3] at e0 e1 e2
  obtain ⟨n0, g0, rfl, _⟩ := DataW.trod_int Tryz.underlying60 e0
  obtain ⟨n1, g1, rfl, _⟩ := DataW.trod_int Tryz.underlying60 e1
  obtain ⟨n2, g2, rfl, _⟩ := DataW.trod_int Tryz.underlying3 e2
  simp [Rows.laid_internal_strconv_float64info] at hx
  simp at g0 g1 g2
  obtain ⟨⟨rfl, rfl, rfl⟩, _⟩ := hx
  refine ⟨by rw [hc 0]; simp [g0], by rw [hc 1]; simp [g1], by rw [hc 2]; simp [g2]⟩
theorem op_of {W : World} (h : laidMet Tryz.prog Laid.lst W) : W.cell? ⟨6, 0, none⟩ = some (.bool true) := by
  have h3 := drop_met 4 (by omega) h
  obtain ⟨cs, fuel, p, hd, hc⟩ := laid_head (n := "internal/strconv.optimize") (d := Rows.laid_internal_strconv_optimize) (r := Laid.lst.drop 5) (g := 6) (t := 4) h3 (by kernel_rfl) (by kernel_rfl)
  obtain ⟨b, rfl, hx⟩ := DataW.trod_bool Tryz.underlying4 hd
  simp [Rows.laid_internal_strconv_optimize] at hx
  rw [hc 0, ← hx.1]
  rfl
def ptL : List Int := [1, 3, 6, 9, 13, 16, 19, 23, 26]
theorem pt_of {W : World} (h : laidMet Tryz.prog Laid.lst W) : ∃ B o, W.cell? ⟨11, 0, none⟩ = some (.slice (some ⟨B, o, none⟩) 9 9) ∧ ∀ i (hi : i < 9), W.cell? ⟨B, o + i, none⟩ = some (.int .i64 (ptL[i]'hi)) := by
  have h3 := drop_met 5 (by omega) h
  obtain ⟨cs, fuel, p, hd, hc⟩ := laid_head (n := "internal/strconv.powtab") (d := Rows.laid_internal_strconv_powtab) (r := Laid.lst.drop 6) (g := 11) (t := 45) h3 (by kernel_rfl) (by kernel_rfl)
  have e : (Rows.laid_internal_strconv_powtab : DataW Unit) = .slice (ptL.map fun z => .lit (.int .i64 z)) [] := by kernel_rfl
  rw [e] at hd
  obtain ⟨B, o, rfl, hf⟩ := ints_of Tryz.underlying45 (by decide) hd
  exact ⟨B, o, by rw [hc 0]; rfl, fun i hi => hf i hi⟩
def flL : List Nat := [4607182418800017408, 4621819117588971520, 4636737291354636288, 4652007308841189376, 4666723172467343360, 4681608360884174848, 4696837146684686336, 4711630319722168320, 4726483295884279808, 4741671816366391296, 4756540486875873280, 4771362005757984768, 4786511204640096256, 4801453603149578240, 4816244402031689728, 4831355200913801216, 4846369599423283200, 4861130398305394688, 4876203697187506176, 4891288408196988160, 4906019910204099648, 4921056587992461136, 4936209963552724370]
theorem fl_of {W : World} (h : laidMet Tryz.prog Laid.lst W) : ∃ B o, W.cell? ⟨12, 0, none⟩ = some (.slice (some ⟨B, o, none⟩) 23 23) ∧ ∀ i (hi : i < 23), W.cell? ⟨B, o + i, none⟩ = some (.float .f64 (flL[i]'hi)) := by
  have h3 := drop_met 6 (by omega) h
  obtain ⟨cs, fuel, p, hd, hc⟩ := laid_head (n := "internal/strconv.float64pow10") (d := Rows.laid_internal_strconv_float64pow10) (r := Laid.lst.drop 7) (g := 12) (t := 313) h3 (by kernel_rfl) (by kernel_rfl)
  have e : (Rows.laid_internal_strconv_float64pow10 : DataW Unit) = .slice (flL.map fun z => .lit (.float .f64 z)) [] := by kernel_rfl
  rw [e] at hd
  obtain ⟨B, o, rfl, hf⟩ := floats_of Tryz.underlying313 (by decide) hd
  exact ⟨B, o, by rw [hc 0]; rfl, fun i hi => hf i hi⟩
theorem ch_of {W : World} (h : laidMet Tryz.prog Laid.lst W) : ∃ B o, W.cell? ⟨16, 0, none⟩ = some (.slice (some ⟨B, o, none⟩) 61 61) ∧ ∀ i (hi : i < Pinned.cheatRows.length), W.cell? ⟨B, o + i * 2, none⟩ = some (.int .i64 (Pinned.cheatRows[i]'hi).1) ∧ W.cell? ⟨B, o + i * 2 + 1, none⟩ = some (.string ⟨(Pinned.cheatRows[i]'hi).2.toArray⟩) := by
  have h3 := drop_met 12 (by omega) h
  obtain ⟨cs, fuel, p, hd, hc⟩ := laid_head (n := "internal/strconv.leftcheats") (d := Rows.laid_internal_strconv_leftcheats) (r := Laid.lst.drop 13) (g := 16) (t := 343) h3 (by kernel_rfl) (by kernel_rfl)
  have hd2 : DataW.trod (fun _ => ()) Tryz.prog W 0 (fun _ => true) false fuel 343 cs = some (.slice (Pinned.cheatRows.map fun x => .agg [.lit (.int .i64 x.1), .lit (.string x.2)]) [], p) := hd
  obtain ⟨B, o, rfl, hf⟩ := cheats_of (by decide) hd2
  exact ⟨B, o, by rw [hc 0]; rfl, hf⟩
theorem er_of {W : World} (h : laidMet Tryz.prog Laid.lst W) : ∃ tp p, W.cell? ⟨3, 0, none⟩ = some (.iface tp p) := by
  have h3 := drop_met 10 (by omega) h
  obtain ⟨cs, fuel, p, hd, hc⟩ := laid_head (n := "strconv.ErrRange") (d := Rows.laid_strconv_ErrRange) (r := Laid.lst.drop 11) (g := 3) (t := 104) h3 (by kernel_rfl) (by kernel_rfl)
  cases fuel with
  | zero => simp [DataW.trod] at hd
  | succ n =>
    unfold DataW.trod at hd
    rw [Tryz.underlying104] at hd
    split at hd
    all_goals first
      | (cases hd; done)
      | skip
    all_goals simp_all
    all_goals done
theorem pow_of {W : World} (h : laidMet Tryz.prog Laid.lst W) : ∀ k (hk : k < Pinned.pow10Rows.length), W.cell? ⟨15, k * 2, none⟩ = some (.int .u64 (Pinned.pow10Rows[k]'hk).1) ∧ W.cell? ⟨15, k * 2 + 1, none⟩ = some (.int .u64 (Pinned.pow10Rows[k]'hk).2) := by
  have h3 := drop_met 13 (by omega) h
  obtain ⟨cs, fuel, p, hd, hc⟩ := laid_head (n := "internal/strconv.pow10Tab") (d := Rows.laid_internal_strconv_pow10Tab) (r := Laid.lst.drop 14) (g := 15) (t := 337) h3 (by kernel_rfl) (by kernel_rfl)
  obtain ⟨xs, m, _, hx, hl, hn, hf⟩ := DataW.trod_array Tryz.underlying337 hd
  have c336 : Tryz.prog.cellsOf 336 = 2 := by kernel_rfl
  have c51 : Tryz.prog.cellsOf 51 = 1 := by kernel_rfl
  have h1 : (Pinned.pow10Rows.map fun x => (DataW.agg [.lit (.int .u64 x.1), .lit (.int .u64 x.2)] : DataW Unit)) = xs.map (·.1) := by
    have := congrArg Prod.fst hx
    unfold Rows.laid_internal_strconv_pow10Tab at this
    simp only [Pinned.pow10Tab, DataW.agg.injEq] at this
    exact this
  have hlen : Pinned.pow10Rows.length = xs.length := by have := congrArg List.length h1; simpa using this
  intro k hk
  have h2 : xs[k]? = some (xs[k]'(by omega)) := List.getElem?_eq_getElem (by omega)
  have h4 : (xs[k]'(by omega)).1 = .agg [.lit (.int .u64 (Pinned.pow10Rows[k]'hk).1), .lit (.int .u64 (Pinned.pow10Rows[k]'hk).2)] := by
    have := congrArg (·[k]?) h1
    simp only [List.getElem?_map, List.getElem?_eq_getElem hk, h2, Option.map_some] at this
    exact (Option.some.inj this).symm
  have h5 := hf k (by omega)
  rw [h2, c336] at h5
  cases m with
  | zero => simp [DataW.trod] at h5
  | succ m =>
    obtain ⟨y0, y1, q, h6, _, e0, e1⟩ := trod_struct2 Tryz.underlying336 h5
    simp only [c51] at e0 e1
    obtain ⟨a, g0, rfl, _⟩ := DataW.trod_int Tryz.underlying51 e0
    obtain ⟨b, g1, rfl, _⟩ := DataW.trod_int Tryz.underlying51 e1
    rw [h6] at h4
    simp only [DataW.agg.injEq, List.cons.injEq, DataW.lit.injEq, Lit.int.injEq, true_and, and_true] at h4
    obtain ⟨rfl, rfl⟩ := h4
    constructor
    · have := congrArg (·[0]?) g0
      rw [hc (k * 2)]
      simpa [List.getElem?_take, List.getElem?_drop] using this
    · have := congrArg (·[0]?) g1
      rw [hc (k * 2 + 1)]
      simpa [List.getElem?_take, List.getElem?_drop] using this
end Go.Proofs.YtagiddbfhlokcaaGreatDoor
/- FormatFloat's arithmetic at 1.5: the scaling. Conditions: two cells of the table of powers. -/
namespace Go.Proofs.YtagiddbfhlokcaaGreatDoor.One
open Go.RowKit
set_option maxRecDepth 100000
theorem log2 (w : World) : Calls Tryz.prog 240 #[.int .i64 16] w fun e w' => e = .returned (.int .i64 53) ∧ w' = w := by
  go_enter Tryz.func240, Tryz.ntmps240
  go_wp2
  go_ret
  exact ⟨rfl, rfl⟩
theorem log10 (w : World) : Calls Tryz.prog 159 #[.int .i64 (-52)] w fun e w' => e = .returned (.int .i64 (-16)) ∧ w' = w := by
  go_enter Tryz.func159, Tryz.ntmps159
  go_wp2
  go_ret
  exact ⟨rfl, rfl⟩
def Pow (w : World) : Prop := w.cell? ⟨15, 728, none⟩ = some (.int .u64 10240000000000000000) ∧ w.cell? ⟨15, 729, none⟩ = some (.int .u64 0)
def Pre (w : World) (b : Nat) (x y z : Value) : Prop := w.heap[b]? = some (.cells #[x, y, z] 306 (0, 0))
theorem Pre.c0 {w : World} {b : Nat} {x y z : Value} (h : Pre w b x y z) : w.cell? ⟨b, 0, none⟩ = some x := by rw [Lib.cell_of_heap h]; rfl
theorem Pre.c1 {w : World} {b : Nat} {x y z : Value} (h : Pre w b x y z) : w.cell? ⟨b, 1, none⟩ = some y := by rw [Lib.cell_of_heap h]; rfl
theorem Pre.c2 {w : World} {b : Nat} {x y z : Value} (h : Pre w b x y z) : w.cell? ⟨b, 2, none⟩ = some z := by rw [Lib.cell_of_heap h]; rfl
theorem nudge0 (u : Nat) (w : World) (h : u = 59999999999999995 ∨ u = 60000000000000005) : Calls Tryz.prog 252 #[.int .u64 u, .int .i64 0] w fun e w' => e = .returned (.int .u64 u) ∧ w' = w := by
  rcases h with rfl | rfl <;>
  · go_enter Tryz.func252, Tryz.ntmps252
    go_wp2
    go_ret
    exact ⟨rfl, rfl⟩
theorem ceil15 (w : World) : Calls Tryz.prog 253 #[.int .u64 59999999999999995] w fun e w' => e = .returned (.int .u64 14999999999999999) ∧ w' = w := by
  go_enter Tryz.func253, Tryz.ntmps253
  go_wp2
  go_ret
  exact ⟨rfl, rfl⟩
theorem floor15 (w : World) : Calls Tryz.prog 254 #[.int .u64 60000000000000005] w fun e w' => e = .returned (.int .u64 15000000000000001) ∧ w' = w := by
  go_enter Tryz.func254, Tryz.ntmps254
  go_wp2
  go_ret
  exact ⟨rfl, rfl⟩
theorem mulLo (w : World) : Calls Tryz.prog 271 #[.int .u64 13835058055282162688, .int .u64 10240000000000000000] w fun e w' => e = .returned (.tuple #[.int .u64 7679999999999999431, .int .u64 10437377940734869504]) ∧ w' = w := by
  have h := Tryz.bits_Mul64 13835058055282162688 10240000000000000000 (by omega) (by omega) w
  have e1 : 13835058055282162688 * 10240000000000000000 / 18446744073709551616 = 7679999999999999431 := by rfl
  have e2 : 13835058055282162688 * 10240000000000000000 % 18446744073709551616 = 10437377940734869504 := by rfl
  rw [e1, e2] at h
  exact h
theorem mulHi (w : World) : Calls Tryz.prog 271 #[.int .u64 13835058055282164736, .int .u64 10240000000000000000] w fun e w' => e = .returned (.tuple #[.int .u64 7680000000000000568, .int .u64 8009366132974682112]) ∧ w' = w := by
  have h := Tryz.bits_Mul64 13835058055282164736 10240000000000000000 (by omega) (by omega) w
  have e1 : 13835058055282164736 * 10240000000000000000 / 18446744073709551616 = 7680000000000000568 := by rfl
  have e2 : 13835058055282164736 * 10240000000000000000 % 18446744073709551616 = 8009366132974682112 := by rfl
  rw [e1, e2] at h
  exact h
theorem uscaleLo (w : World) (b : Nat) (y : Value) (h : Pre w b (.int .u64 10240000000000000000) y (.int .i64 7)) : Calls Tryz.prog 242 #[.int .u64 13835058055282162688, .pointer (some ⟨b, 0, none⟩)] w fun e w' => e = .returned (.int .u64 59999999999999995) ∧ w' = w := by
  have c0 := h.c0
  have c2 := h.c2
  have b7 : bits BinOp.and IntKind.i64 7 63 = 7 := by kernel_rfl
  have b8 : bits BinOp.or IntKind.u64 59999999999999995 1 = 59999999999999995 := by kernel_rfl
  have b9 : bits BinOp.or IntKind.u64 60000000000000004 1 = 60000000000000005 := by kernel_rfl
  go_enter Tryz.func242, Tryz.ntmps242
  go_wp2_with fail
  refine (mulLo _).mono ?_
  rintro e w' ⟨rfl, rfl⟩
  go_wp2_with fail
  go_ret
  exact ⟨rfl, rfl⟩
theorem uscaleHi (w : World) (b : Nat) (y : Value) (h : Pre w b (.int .u64 10240000000000000000) y (.int .i64 7)) : Calls Tryz.prog 242 #[.int .u64 13835058055282164736, .pointer (some ⟨b, 0, none⟩)] w fun e w' => e = .returned (.int .u64 60000000000000005) ∧ w' = w := by
  have c0 := h.c0
  have c2 := h.c2
  have b7 : bits BinOp.and IntKind.i64 7 63 = 7 := by kernel_rfl
  have b8 : bits BinOp.or IntKind.u64 59999999999999995 1 = 59999999999999995 := by kernel_rfl
  have b9 : bits BinOp.or IntKind.u64 60000000000000004 1 = 60000000000000005 := by kernel_rfl
  go_enter Tryz.func242, Tryz.ntmps242
  go_wp2_with fail
  refine (mulHi _).mono ?_
  rintro e w' ⟨rfl, rfl⟩
  go_wp2_with fail
  go_ret
  exact ⟨rfl, rfl⟩
end Go.Proofs.YtagiddbfhlokcaaGreatDoor.One
/- FormatFloat's shortest digits at 1.5. Conditions: two cells of the table of powers. -/
namespace Go.Proofs.YtagiddbfhlokcaaGreatDoor.One
open Go.RowKit
set_option maxRecDepth 100000
theorem Pre.set0 {w : World} {b : Nat} {x y z : Value} (h : Pre w b x y z) (v : Value) : Pre (w.setCell ⟨b, 0, none⟩ v) b v y z := Joins.block_setCell (i := 0) h v
theorem Pre.set1 {w : World} {b : Nat} {x y z : Value} (h : Pre w b x y z) (v : Value) : Pre (w.setCell ⟨b, 1, none⟩ v) b x v z := Joins.block_setCell (i := 1) h v
theorem Pre.set2 {w : World} {b : Nat} {x y z : Value} (h : Pre w b x y z) (v : Value) : Pre (w.setCell ⟨b, 2, none⟩ v) b x y v := Joins.block_setCell (i := 2) h v
theorem Pow.set {w : World} {b i : Nat} (h : Pow w) (hb : 15 < b) (v : Value) : Pow (w.setCell ⟨b, i, none⟩ v) :=
  ⟨by rw [World.cell?_setCell_far _ _ _ _ (by simp; omega)]; exact h.1, by rw [World.cell?_setCell_far _ _ _ _ (by simp; omega)]; exact h.2⟩
theorem prescale15 (w : World) (b : Nat) (x y z : Value) (h : Pre w b x y z) (hp : Pow w) (hb : 15 < b) :
    Calls Tryz.prog 241 #[.pointer (some ⟨b, 0, none⟩), .int .i64 (-63), .int .i64 16, .int .i64 53] w fun e w' => e = .returned (.tuple #[]) ∧ Pre w' b (.int .u64 10240000000000000000) (.int .u64 0) (.int .i64 7) ∧ Below b w w' := by
  have p0 := hp.1
  have c0 := h.c0
  have h1 := h.set0 (.int .u64 10240000000000000000)
  have p1 := (hp.set (i := 0) hb (.int .u64 10240000000000000000)).2
  have c1 := h1.c1
  have h2 := h1.set1 (.int .u64 0)
  have c2 := h2.c2
  have f0 := Lib.frozen_of_heap h 0
  have f1 := Lib.frozen_of_heap h1 1
  have f2 := Lib.frozen_of_heap h2 2
  have H3 := Lib.hid (h2.set2 (.int .i64 7))
  clear h h1 h2 hp
  go_enter Tryz.func241, Tryz.ntmps241
  go_wp2
  go_end0
  exact ⟨rfl, H3.out, (((Below.refl b w).setCell (p := ⟨b, 0, none⟩) (Nat.le_refl _) _).setCell (p := ⟨b, 1, none⟩) (Nat.le_refl _) _).setCell (p := ⟨b, 2, none⟩) (Nat.le_refl _) _⟩
theorem short15 (w : World) (hp : Pow w) (h8 : 15 < w.heap.size) :
    Calls Tryz.prog 229 #[.int .u64 13835058055282163712, .int .i64 (-63)] w fun e w' => e = .returned (.tuple #[.int .u64 1500000000000000, .int .i64 (-15)]) ∧ Below w.heap.size w w' := by
  have hpre : Pre (w.alloc (.cells #[.int .u64 0, .int .u64 0, .int .i64 0] 306)) w.heap.size (.int .u64 0) (.int .u64 0) (.int .i64 0) := heap_alloc_new w _
  have hpow : Pow (w.alloc (.cells #[.int .u64 0, .int .u64 0, .int .i64 0] 306)) := ⟨((Below.refl _ _).alloc (Nat.le_refl _) _).cell (p := ⟨15, 728, none⟩) h8 |>.trans hp.1, ((Below.refl _ _).alloc (Nat.le_refl _) _).cell (p := ⟨15, 729, none⟩) h8 |>.trans hp.2⟩
  have HPRE := Lib.hid hpre
  have HPOW := Lib.hid hpow
  have H8 := Lib.hid h8
  clear hpre hpow hp h8
  have a1 : bits BinOp.and IntKind.i64 6755399441055744 1 = 0 := by kernel_rfl
  go_enter Tryz.func229, Tryz.ntmps229
  go_wp2_with fail
  refine (log10 _).mono ?_
  rintro e w' ⟨rfl, hw⟩
  obtain rfl := hw.symm
  clear hw
  go_wp2_with fail
  refine (log2 _).mono ?_
  rintro e w' ⟨rfl, hw⟩
  obtain rfl := hw.symm
  clear hw
  go_wp2_with fail
  refine (prescale15 _ _ _ _ _ HPRE.out HPOW.out H8.out).mono ?_
  rintro e w1 ⟨rfl, h1, hb1⟩
  have H1 := Lib.hid h1
  have HB := Lib.hid (((Below.refl w.heap.size w).alloc (Nat.le_refl _) _).trans hb1)
  clear h1 hb1
  go_wp2_with fail
  refine (uscaleLo _ _ _ H1.out).mono ?_
  rintro e w' ⟨rfl, hw⟩
  obtain rfl := hw.symm
  clear hw
  go_wp2_with fail
  refine (nudge0 59999999999999995 _ (.inl rfl)).mono ?_
  rintro e w' ⟨rfl, hw⟩
  obtain rfl := hw.symm
  clear hw
  go_wp2_with fail
  refine (ceil15 _).mono ?_
  rintro e w' ⟨rfl, hw⟩
  obtain rfl := hw.symm
  clear hw
  go_wp2_with fail
  refine (uscaleHi _ _ _ H1.out).mono ?_
  rintro e w' ⟨rfl, hw⟩
  obtain rfl := hw.symm
  clear hw
  go_wp2_with fail
  refine (nudge0 60000000000000005 _ (.inr rfl)).mono ?_
  rintro e w' ⟨rfl, hw⟩
  obtain rfl := hw.symm
  clear hw
  go_wp2_with fail
  refine (floor15 _).mono ?_
  rintro e w' ⟨rfl, hw⟩
  obtain rfl := hw.symm
  clear hw
  go_wp2_with fail
  go_ret2
  exact ⟨rfl, HB.out⟩
end Go.Proofs.YtagiddbfhlokcaaGreatDoor.One
/- setDigits at 1.5's digits. No condition but the row of 32 noughts. -/
namespace Go.Proofs.YtagiddbfhlokcaaGreatDoor.One
open Go.RowKit Go.Sort
set_option maxRecDepth 100000
def encB (b : UInt8) : Value := Value.int .u8 (b.toNat : Int)
theorem dgs : ∀ t : Fin 16, Lib.dg 1500000000000000 (15 - t.val) = (if t.val = 0 then 49 else if t.val = 1 then 53 else 48) := by decide +kernel
theorem fmt15 (w : World) (b : Nat) (hH : Holds encB w b 0 (Array.replicate 16 0)) :
    Calls Tryz.prog 112 #[.slice (some ⟨b, 0, none⟩) 16 32, .int .u64 1500000000000000] w fun e w' => e = .returned (.tuple #[]) ∧ (∀ t, t < 16 → w'.cell? ⟨b, t, none⟩ = some (.int .u8 (if t = 0 then 49 else if t = 1 then 53 else 48))) ∧ Below b w w' := by
  have h := Tryz.internal_strconv_formatBase10 b 0 32 1500000000000000 (Array.replicate 16 0) w hH (by rw [Array.size_replicate]; decide) (by omega) (by rw [Array.size_replicate]; omega)
  rw [Array.size_replicate] at h
  refine h.mono ?_
  rintro e w' ⟨rfl, n, v', dk, rfl, hf⟩
  refine ⟨rfl, fun t ht => ?_, ?_⟩
  · have h1 := cell?_putRow encB w b 0 _ dk hH (by rw [hf.size, Array.size_replicate]) t (by rw [hf.size]; exact ht)
    have h2 := hf.done t (by omega) ht
    have h3 := dgs ⟨t, ht⟩
    rw [show 16 - 1 - t = 15 - t by omega] at h2
    simp only at h3
    rw [h2, h3, Nat.zero_add] at h1
    refine Eq.trans h1 ?_
    unfold encB
    split
    · rfl
    · split <;> rfl
  · exact ⟨rfl, rfl, rfl, by simp [putRow, mapBlock, World.drewN], fun i hi => by simp only [putRow, mapBlock, World.drewN]; rw [Array.getElem?_modify, if_neg (by omega)]⟩
theorem setDigits15 (w : World) (b : Nat) (hH : Holds encB w b 0 (Array.replicate 16 0)) :
    Calls Tryz.prog 224 #[.slice (some ⟨b, 0, none⟩) 32 32, .int .u64 1500000000000000, .int .i64 (-15), .int .i64 16] w fun e w' => e = .returned (.tuple #[.int .i64 1, .int .i64 2]) ∧ (w'.cell? ⟨b, 0, none⟩ = some (.int .u8 49) ∧ w'.cell? ⟨b, 1, none⟩ = some (.int .u8 53)) ∧ Below b w w' := by
  have HH := Lib.hid hH
  clear hH
  go_enter Tryz.func224, Tryz.ntmps224
  go_wp2_with fail
  refine (fmt15 _ _ HH.out).mono ?_
  rintro e w1 ⟨rfl, hc, hb⟩
  have HC := Lib.hid hc
  have HB := Lib.hid hb
  clear hc hb
  go_wp2_with fail
  go_loopw [3] (fun i wr => (∃ k : Nat, 2 ≤ k ∧ k ≤ 16 ∧ i = .int .i64 k) ∧ wr = w1) (fun i _ => (intOf i).toNat)
  case atStart => exact ⟨⟨16, by omega, by omega, rfl⟩, rfl⟩
  case round =>
    obtain ⟨⟨k, h2, h16, rfl⟩, hw⟩ := hrel
    obtain rfl := hw.symm
    by_cases hk : k = 2
    · subst hk
      have c1 := HC.out 1 (by omega)
      simp only [if_neg (show ¬(1 : Nat) = 0 by omega), if_pos] at c1
      go_wp2
      go_ret2
      exact ⟨rfl, ⟨HC.out 0 (by omega), HC.out 1 (by omega)⟩, HB.out⟩
    · have c1 := HC.out (k - 1) (by omega)
      rw [if_neg (by omega), if_neg (by omega)] at c1
      have e1 : ((k : Int) - 1).toNat = k - 1 := by omega
      go_wp2
      go_roundw
      case rel => exact ⟨⟨k - 1, by omega, by omega, by go_num⟩, trivial⟩
      case measure => simp [intOf]; omega
end Go.Proofs.YtagiddbfhlokcaaGreatDoor.One
