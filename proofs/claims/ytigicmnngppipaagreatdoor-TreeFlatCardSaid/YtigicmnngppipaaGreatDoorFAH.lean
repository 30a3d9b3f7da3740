/- Several texts of this proof, laid together. Conditions: as each says. -/
import Derived.Test.YtigicmnngppipaaGreatDoorFAG
import Ieee.Arith
import Derived.Test.YtigicmnngppipaaGreatDoorFAF
import Derived.Laws.FloatArith
import Derived.Test.YtigicmnngppipaaGreatDoorRows
import Derived.Test.YtigicmnngppipaaGreatDoorFAB
import Derived.WalkKit
import Derived.ProofKit
import Derived.OpenShut
import Derived.Below
import Derived.WalkLawsBesides
import Derived.WalkSpells
import Derived.BigQuiet
import Derived.Lib.Hide
import Derived.Laws.Bits64b
import Derived.Laws.Shifts
import Derived.Laws.BitsAllLaws
import Derived.Laws.ShiftsVar
import Derived.Laws.ShiftsVarLaws
/- A quoted text is read: value's unquote. Condition: the text's length. -/
namespace Go.Proofs.YtigicmnngppipaaGreatDoor
open Go.RowKit
set_option maxRecDepth 100000
/-- A value, of the program's type. -/
def val (k b : Int) (t : ByteArray) : Value := .agg #[.int .i64 k, .int .u64 b, .string t]
/-- A quoted text's value, and the error's number. -/
def unqV (o : Option (List UInt8)) : Value × Int := match o with
  | none => (val 0 0 ⟨#[]⟩, 2)
  | some t => if 65536 < t.length then (val 0 0 ⟨#[]⟩, 4) else (val 4 0 (bs t), 0)
theorem unq_close (d : UInt8) (t : List UInt8) : PF.unq (34 :: d :: t) = none := by unfold PF.unq; rw [if_pos (.inl rfl)]
theorem unq_line (t : List UInt8) : PF.unq (10 :: t) = none := by
  cases t with
  | nil => rfl
  | cons d t => unfold PF.unq; rw [if_pos (.inr rfl)]
theorem unq_esc (d : UInt8) (t : List UInt8) : PF.unq (92 :: d :: t) = (if d = 34 ∨ d = 92 then (PF.unq t).map (d :: ·) else if d = 110 then (PF.unq t).map (10 :: ·) else none) := by
  conv => lhs; unfold PF.unq
  rw [if_neg (by decide), if_pos rfl]
theorem unq_plain (c : UInt8) (t : List UInt8) (h1 : c ≠ 34) (h2 : c ≠ 10) (h3 : c ≠ 92) : PF.unq (c :: t) = (PF.unq t).map (c :: ·) := by
  cases t with
  | nil => unfold PF.unq; rw [if_neg h1]; rfl
  | cons d t =>
    conv => lhs; unfold PF.unq
    rw [if_neg (by simp [h1, h2]), if_neg h3]
theorem byteCells_app (l : List UInt8) (c : UInt8) : Lib.byteCells (l ++ [c]) = Lib.byteCells l ++ [.int .u8 c.toNat] := by
  simp [Lib.byteCells]
theorem byteCells_len (l : List UInt8) : (Lib.byteCells l).length = l.length := by simp [Lib.byteCells]
theorem idxE (d : UInt8) (w : World) : Calls Tryz.prog 69 #[.string ⟨#[34, 92, 110]⟩, .int .u8 d.toNat] w fun e w' => e = .returned (.int .i64 (if d = 34 then 0 else if d = 92 then 1 else if d = 110 then 2 else -1)) ∧ w = w' := by
  refine (Tryz.strings_IndexByte ⟨#[34, 92, 110]⟩ d.toNat w).mono ?_
  rintro e w' ⟨rfl, h⟩
  refine ⟨?_, h.symm⟩
  have : ((d.toNat : Int).toNat.toUInt8) = d := by simp
  rw [this]
  congr 2
  have key : ∀ n : Fin 256, (Lib.indexByte [34, 92, 110] (UInt8.ofNat n.val)) = (if UInt8.ofNat n.val = 34 then (0 : Int) else if UInt8.ofNat n.val = 92 then 1 else if UInt8.ofNat n.val = 110 then 2 else -1) := by decide +kernel
  have := key ⟨d.toNat, d.toNat_lt⟩
  simpa using this
def InUnq (r : List UInt8) (B : Nat) (w : World) (v : Value) (wr : World) : Prop :=
  ∃ (t l : List UInt8), v = .string (bs t) ∧ PF.unq r = (PF.unq t).map (l ++ ·) ∧ l.length + t.length ≤ r.length ∧ Lib.IsBuilder 111 5 B B (Lib.byteCells l) wr ∧ Below B w wr
def sizeOfV : Value → Nat
  | .string t => t.size
  | _ => 0
theorem map_app (o : Option (List UInt8)) (l : List UInt8) (c : UInt8) : (o.map (c :: ·)).map (l ++ ·) = o.map ((l ++ [c]) ++ ·) := by
  cases o <;> simp
theorem byte_eq (c : UInt8) (n : Nat) (hn : n < 256) (h : c = UInt8.ofNat n) : ((c.toNat : Int) == (n : Int)) = true := by
  subst h; simp; omega
theorem byte_ne (c : UInt8) (n : Nat) (hn : n < 256) (h : c ≠ UInt8.ofNat n) : ((c.toNat : Int) == (n : Int)) = false := by
  rw [beq_eq_false_iff_ne]
  intro e
  apply h
  apply UInt8.toNat_inj.1
  simp
  omega
theorem heap_setCell_same (w : World) (B k : Nat) (cs : Array Value) (T : TypeId) (u : Value) (h : w.heap[B]? = some (.cells cs T (0, 0))) : (w.setCell ⟨B, k, none⟩ u).heap[B]? = some (.cells (cs.setIfInBounds k u) T (0, 0)) := by
  simp [World.setCell, Array.getElem?_modify, h]
theorem results53 {F : Func} (hF : F.results = #[.cell 2 28, .tmp 3]) {tmps : Array Value} {wr : World} {B : Nat} {x y z a b c : Value} (hb : tmps.getD 2 undef = .pointer (some ⟨B, 0, none⟩)) (hk : wr.heap[B]? = some (.cells #[a, b, c] 28 (0, 0))) :
    (results F tmps).run Tryz.prog (((wr.setCell ⟨B, 0, none⟩ x).setCell ⟨B, 1, none⟩ y).setCell ⟨B, 2, none⟩ z) = .ok (.tuple #[.agg #[x, y, z], tmps.getD 3 undef]) (((wr.setCell ⟨B, 0, none⟩ x).setCell ⟨B, 1, none⟩ y).setCell ⟨B, 2, none⟩ z) := by
  have h1 := heap_setCell_same _ B 0 _ _ x hk
  have h2 := heap_setCell_same _ B 1 _ _ y h1
  have h3 := heap_setCell_same _ B 2 _ _ z h2
  obtain ⟨w2, hw⟩ : ∃ w2, ((wr.setCell ⟨B, 0, none⟩ x).setCell ⟨B, 1, none⟩ y).setCell ⟨B, 2, none⟩ z = w2 := ⟨_, rfl⟩
  rw [hw] at h3 ⊢
  have c0 : w2.cell? ⟨B, 0, none⟩ = some x := Lib.cell_of_heap h3 0
  have c1 : w2.cell? ⟨B, 1, none⟩ = some y := Lib.cell_of_heap h3 1
  have c2 : w2.cell? ⟨B, 2, none⟩ = some z := Lib.cell_of_heap h3 2
  have hb' : tmps[2]?.getD undef = .pointer (some ⟨B, 0, none⟩) := by simpa using hb
  simp [results, hF, hb', c0, c1, c2, go_sem]
/-- The result's cells, behind the loop. -/
theorem resFacts {w w' : World} (h : Below (w.heap.size + 1) (w.alloc (.cells #[.int .i64 0, .int .u64 0, .string ⟨#[]⟩] 28 (0, 0))) w') :
    w'.cell? ⟨w.heap.size, 0, none⟩ = some (.int .i64 0) ∧ w'.cell? ⟨w.heap.size, 1, none⟩ = some (.int .u64 0) ∧ w'.cell? ⟨w.heap.size, 2, none⟩ = some (.string ⟨#[]⟩) ∧
    w'.frozen? ⟨w.heap.size, 0, none⟩ = false ∧ w'.frozen? ⟨w.heap.size, 1, none⟩ = false ∧ w'.frozen? ⟨w.heap.size, 2, none⟩ = false ∧ w'.heap[w.heap.size]? = some (.cells #[.int .i64 0, .int .u64 0, .string ⟨#[]⟩] 28 (0, 0)) ∧ Below w.heap.size w w' := by
  have hb : w'.heap[w.heap.size]? = some (.cells #[.int .i64 0, .int .u64 0, .string ⟨#[]⟩] 28 (0, 0)) := by
    rw [h.block _ (by omega)]
    show (w.heap.push _)[w.heap.size]? = _
    rw [Array.getElem?_push_size]
  have hs := h.size
  simp only [World.size_alloc] at hs
  exact ⟨Lib.cell_of_heap hb 0, Lib.cell_of_heap hb 1, Lib.cell_of_heap hb 2, Lib.frozen_of_heap hb 0, Lib.frozen_of_heap hb 1, Lib.frozen_of_heap hb 2, hb, ((Below.refl _ _).alloc (Nat.le_refl _) _).trans (h.mono (by omega))⟩
set_option maxHeartbeats 4000000 in
theorem unquote56 (a : UInt8) (r : List UInt8) (hr : r.length ≤ 140737488355327) (w : World) : Calls Tryz.prog 137 #[.string (bs (a :: r))] w fun e w' => e = .returned (.tuple #[(unqV (PF.unq r)).1, .int .i64 (unqV (PF.unq r)).2]) ∧ Below w.heap.size w w' := by
  obtain ⟨hsz0, hg0, hem0, h0i0, h1i0, htl0⟩ := bs_head (r := a :: r) rfl
  go_enter Tryz.func137, Tryz.ntmps137
  have W2 : Below w.heap.size w w := Below.refl _ _
  go_wp2_with fail
  go_loopw [5] (fun v wr => InUnq r (w.heap.size + 1) (w.alloc (.cells #[.int .i64 0, .int .u64 0, .string ⟨#[]⟩] 28 (0, 0))) v wr) (fun v _ => sizeOfV v)
  case atStart => 
    refine ⟨r, [], rfl, by cases PF.unq r <;> rfl, by simp, ?_, (Below.refl _ _).alloc (by simp) _⟩
    have := Lib.fresh_isBuilder 111 5 (w.alloc (.cells #[.int .i64 0, .int .u64 0, .string ⟨#[]⟩] 28 (0, 0)))
    simp only [World.size_alloc] at this
    exact this
  case round =>
    obtain ⟨t, l, rfl, hun, hle, hbd, hb⟩ := hrel
    have HD := Lib.hid hbd
    have HB := Lib.hid hb
    have HUN := Lib.hid hun
    have hsz := HB.out.size
    simp only [World.size_alloc] at hsz
    clear hbd hb hun
    rcases list_cases t with e | ⟨c, u, e⟩
    · have e0 := bs_nil e
      have HUN2 : Hid (PF.unq r = none) := Lib.hid (by rw [HUN.out, e]; rfl)
      clear e
      obtain ⟨f0, f1, f2, g0, g1, g2, hk, hbw⟩ := resFacts HB.out
      have HBW := Lib.hid hbw
      have HK := Lib.hid hk
      clear hbw hk
      go_wp2_with fail
      refine bodyPost_ret (results53 (F := Tryz.f137) rfl rfl HK.out) rfl ?_
      exact ⟨by rw [HUN2.out]; rfl, ((HBW.out.setCell (Nat.le_refl _) _).setCell (Nat.le_refl _) _).setCell (Nat.le_refl _) _⟩
    · obtain ⟨hp, hg, hem, h0i, h1i, htl⟩ := bs_head e
      rw [e] at HUN
      have htlen : t.length = u.length + 1 := by rw [e]; rfl
      clear e
      by_cases h34 : c = 34
      · have c34 := byte_eq c 34 (by decide) h34
        subst h34
        rcases list_cases u with e | ⟨d, v, e⟩
        · have e0 := bs_nil e
          have HUN2 : Hid (PF.unq r = some l) := Lib.hid (by rw [HUN.out, e]; simp [PF.unq])
          clear e
          obtain ⟨f0, f1, f2, g0, g1, g2, hk, hbw⟩ := resFacts HB.out
          have HBW := Lib.hid hbw
          have HK := Lib.hid hk
          clear hbw hk
          go_wp2_with fail
          refine (Tryz.Builder_Len (w.heap.size + 1) (w.heap.size + 1) _ wr HD.out).mono ?_
          rintro e w1 ⟨rfl, rfl⟩
          have hbl : (Lib.byteCells l).length = l.length := byteCells_len l
          rw [hbl]
          by_cases hlen : 65536 < l.length
          · have hlz : (65536 : Int) < (l.length : Int) := by omega
            go_wp2_with fail
            refine bodyPost_ret (results53 (F := Tryz.f137) rfl rfl HK.out) rfl ?_
            exact ⟨by rw [HUN2.out]; simp only [unqV]; rw [if_pos hlen]; rfl, ((HBW.out.setCell (Nat.le_refl _) _).setCell (Nat.le_refl _) _).setCell (Nat.le_refl _) _⟩
          · have hlz : ¬((65536 : Int) < (l.length : Int)) := by omega
            go_wp2_with fail
            refine (Tryz.Builder_String_any (w.heap.size + 1) (w.heap.size + 1) _ _ HD.out hsz).mono ?_
            rintro e w2 ⟨rfl, hb2⟩
            have HB2 := Lib.hid (HB.out.trans hb2)
            clear f0 f1 f2 g0 g1 g2 hb2 HBW HK
            obtain ⟨f0, f1, f2, g0, g1, g2, hk, hbw⟩ := resFacts HB2.out
            have HBW := Lib.hid hbw
            have HK := Lib.hid hk
            clear hk hbw
            go_wp2_with fail
            refine bodyPost_ret (results53 (F := Tryz.f137) rfl rfl HK.out) rfl ?_
            exact ⟨by rw [HUN2.out]; simp only [unqV]; rw [if_neg hlen]; rfl, ((HBW.out.setCell (Nat.le_refl _) _).setCell (Nat.le_refl _) _).setCell (Nat.le_refl _) _⟩
        · obtain ⟨hp2, hg2, hem2, h0i2, h1i2, htl2⟩ := bs_head e
          have HUN2 : Hid (PF.unq r = none) := Lib.hid (by rw [HUN.out, e, unq_close]; rfl)
          clear e
          obtain ⟨f0, f1, f2, g0, g1, g2, hk, hbw⟩ := resFacts HB.out
          have HBW := Lib.hid hbw
          have HK := Lib.hid hk
          clear hbw hk
          go_wp2_with fail
          refine bodyPost_ret (results53 (F := Tryz.f137) rfl rfl HK.out) rfl ?_
          exact ⟨by rw [HUN2.out]; rfl, ((HBW.out.setCell (Nat.le_refl _) _).setCell (Nat.le_refl _) _).setCell (Nat.le_refl _) _⟩
      · have c34 := byte_ne c 34 (by decide) h34
        by_cases h10 : c = 10
        · have c10 := byte_eq c 10 (by decide) h10
          have HUN2 : Hid (PF.unq r = none) := Lib.hid (by rw [HUN.out, h10, unq_line]; rfl)
          clear h34 h10
          obtain ⟨f0, f1, f2, g0, g1, g2, hk, hbw⟩ := resFacts HB.out
          have HBW := Lib.hid hbw
          have HK := Lib.hid hk
          clear hbw hk
          go_wp2_with fail
          refine bodyPost_ret (results53 (F := Tryz.f137) rfl rfl HK.out) rfl ?_
          exact ⟨by rw [HUN2.out]; rfl, ((HBW.out.setCell (Nat.le_refl _) _).setCell (Nat.le_refl _) _).setCell (Nat.le_refl _) _⟩
        · have c10 := byte_ne c 10 (by decide) h10
          by_cases h92 : c = 92
          · have c92 := byte_eq c 92 (by decide) h92
            rw [h92] at HUN
            clear h34 h10 h92
            rcases list_cases u with e | ⟨d, v, e⟩
            · have e0 := bs_nil e
              have HUN2 : Hid (PF.unq r = none) := Lib.hid (by rw [HUN.out, e]; rfl)
              clear e
              obtain ⟨f0, f1, f2, g0, g1, g2, hk, hbw⟩ := resFacts HB.out
              have HBW := Lib.hid hbw
              have HK := Lib.hid hk
              clear hbw hk
              go_wp2_with fail
              refine bodyPost_ret (results53 (F := Tryz.f137) rfl rfl HK.out) rfl ?_
              exact ⟨by rw [HUN2.out]; rfl, ((HBW.out.setCell (Nat.le_refl _) _).setCell (Nat.le_refl _) _).setCell (Nat.le_refl _) _⟩
            · obtain ⟨hp2, hg2, hem2, h0i2, h1i2, htl2⟩ := bs_head e
              rw [e] at HUN
              have hul : u.length = v.length + 1 := by rw [e]; rfl
              clear e
              have M := Lib.hid (fun w => idxE d w)
              by_cases d34 : d = 34
              · rw [if_pos d34] at M
                clear c34
                have HUN3 : Hid (PF.unq r = ((PF.unq v).map (34 :: ·)).map (l ++ ·)) := Lib.hid (by rw [HUN.out, unq_esc, if_pos (.inl d34), d34])
                clear d34
                go_wp2_with fail
                refine (M.out _).mono ?_
                rintro e w1 ⟨rfl, rfl⟩
                go_wp2_with fail
                refine (writeByte (w.heap.size + 1) (w.heap.size + 1) _ (34) wr HD.out (by rw [byteCells_len]; omega) hsz).mono ?_
                rintro e w1 ⟨rfl, hd1, hb1⟩
                have HD1 := Lib.hid hd1
                have HB1 := Lib.hid hb1
                clear hd1 hb1
                go_wp2_with fail
                go_roundw
                case rel => exact ⟨v, l ++ [34], rfl, by rw [HUN3.out, map_app], by simp; omega, .inr (by rw [byteCells_app]; exact HD1.out), HB.out.trans HB1.out⟩
                case measure => simp [sizeOfV, bs_size]; omega
              · by_cases d92 : d = 92
                · rw [if_neg d34, if_pos d92] at M
                  have HUN3 : Hid (PF.unq r = ((PF.unq v).map (92 :: ·)).map (l ++ ·)) := Lib.hid (by rw [HUN.out, unq_esc, if_pos (.inr d92), d92])
                  clear d34 d92
                  go_wp2_with fail
                  refine (M.out _).mono ?_
                  rintro e w1 ⟨rfl, rfl⟩
                  go_wp2_with fail
                  refine (writeByte (w.heap.size + 1) (w.heap.size + 1) _ (92) wr HD.out (by rw [byteCells_len]; omega) hsz).mono ?_
                  rintro e w1 ⟨rfl, hd1, hb1⟩
                  have HD1 := Lib.hid hd1
                  have HB1 := Lib.hid hb1
                  clear hd1 hb1
                  go_wp2_with fail
                  go_roundw
                  case rel => exact ⟨v, l ++ [92], rfl, by rw [HUN3.out, map_app], by simp; omega, .inr (by rw [byteCells_app]; exact HD1.out), HB.out.trans HB1.out⟩
                  case measure => simp [sizeOfV, bs_size]; omega
                · by_cases d110 : d = 110
                  · rw [if_neg d34, if_neg d92, if_pos d110] at M
                    have HUN3 : Hid (PF.unq r = ((PF.unq v).map (10 :: ·)).map (l ++ ·)) := Lib.hid (by rw [HUN.out, unq_esc, if_neg (by simp [d34, d92]), if_pos d110])
                    clear d34 d92 d110
                    go_wp2_with fail
                    refine (M.out _).mono ?_
                    rintro e w1 ⟨rfl, rfl⟩
                    go_wp2_with fail
                    refine (writeByte (w.heap.size + 1) (w.heap.size + 1) _ (10) wr HD.out (by rw [byteCells_len]; omega) hsz).mono ?_
                    rintro e w1 ⟨rfl, hd1, hb1⟩
                    have HD1 := Lib.hid hd1
                    have HB1 := Lib.hid hb1
                    clear hd1 hb1
                    go_wp2_with fail
                    go_roundw
                    case rel => exact ⟨v, l ++ [10], rfl, by rw [HUN3.out, map_app], by simp; omega, .inr (by rw [byteCells_app]; exact HD1.out), HB.out.trans HB1.out⟩
                    case measure => simp [sizeOfV, bs_size]; omega
                  · rw [if_neg d34, if_neg d92, if_neg d110] at M
                    have HUN3 : Hid (PF.unq r = none) := Lib.hid (by rw [HUN.out, unq_esc, if_neg (by simp [d34, d92]), if_neg d110]; rfl)
                    clear d34 d92 d110
                    go_wp2_with fail
                    refine (M.out _).mono ?_
                    rintro e w1 ⟨rfl, rfl⟩
                    obtain ⟨f0, f1, f2, g0, g1, g2, hk, hbw⟩ := resFacts HB.out
                    have HBW := Lib.hid hbw
                    have HK := Lib.hid hk
                    clear hbw hk
                    go_wp2_with fail
                    refine bodyPost_ret (results53 (F := Tryz.f137) rfl rfl HK.out) rfl ?_
                    exact ⟨by rw [HUN3.out]; rfl, ((HBW.out.setCell (Nat.le_refl _) _).setCell (Nat.le_refl _) _).setCell (Nat.le_refl _) _⟩
          · have c92 := byte_ne c 92 (by decide) h92
            have HUN3 : Hid (PF.unq r = ((PF.unq u).map (c :: ·)).map (l ++ ·)) := Lib.hid (by rw [HUN.out, unq_plain c u h34 h10 h92])
            clear h34 h10 h92
            go_wp2_with fail
            refine (writeByte (w.heap.size + 1) (w.heap.size + 1) _ ((c.toNat : Int)) wr HD.out (by rw [byteCells_len]; omega) hsz).mono ?_
            rintro e w1 ⟨rfl, hd1, hb1⟩
            have HD1 := Lib.hid hd1
            have HB1 := Lib.hid hb1
            clear hd1 hb1
            go_wp2_with fail
            go_roundw
            case rel => exact ⟨u, l ++ [c], rfl, by rw [HUN3.out, map_app], by simp; omega, .inr (by rw [byteCells_app]; exact HD1.out), HB.out.trans HB1.out⟩
            case measure => simp [sizeOfV, bs_size]; omega

end Go.Proofs.YtigicmnngppipaaGreatDoor
/- How great a float is after a product, a quotient, a conversion: the exponent's field, bounded. No condition. -/
namespace PF
open Ieee
theorem cut_le (neg : Bool) (n drop : Nat) (h : n < 2 ^ (53 + drop)) : Toward.even.cut neg n drop ≤ 2 ^ 53 := by
  unfold Toward.cut
  have hlow : n / (1 <<< min drop (n.log2 + 2)) < 2 ^ 53 := by
    rw [Nat.shiftLeft_eq, Nat.one_mul]
    by_cases hd : drop ≤ n.log2 + 2
    · rw [Nat.min_eq_left hd]
      rw [Nat.div_lt_iff_lt_mul (Nat.two_pow_pos _), ← Nat.pow_add]
      exact h
    · rw [Nat.min_eq_right (by omega)]
      have hn : n < 2 ^ (n.log2 + 2) := Nat.lt_of_lt_of_le (Nat.lt_log2_self (n := n)) (Nat.pow_le_pow_right (by omega) (by omega))
      rw [Nat.div_eq_of_lt hn]
      exact Nat.two_pow_pos _
  have hb : ∀ b : Bool, b.toNat ≤ 1 := by intro b; cases b <;> decide
  have := hb (decide (1 <<< min drop (n.log2 + 2) < 2 * (n % (1 <<< min drop (n.log2 + 2)))) || (1 <<< min drop (n.log2 + 2) == 2 * (n % (1 <<< min drop (n.log2 + 2))) && n / (1 <<< min drop (n.log2 + 2)) % 2 == 1))
  dsimp only
  omega
/-- The exponent's field is at most E. -/
def Low (x E : Nat) : Prop := x % 9223372036854775808 < (E + 1) * 4503599627370496
def Fin (x : Nat) : Prop := x % 9223372036854775808 < 9218868437227405312
theorem Low.fin {x E : Nat} (h : Low x E) (hE : E ≤ 2046) : Fin x := by
  unfold Low at h; unfold Fin; omega
theorem word_mod (neg : Bool) (r : Nat) (h : r < 9223372036854775808) : double.word neg r % 9223372036854775808 = r := by
  unfold Format.word Format.signWeight double
  split
  · show (9223372036854775808 + r) % 9223372036854775808 = r
    omega
  · exact Nat.mod_eq_of_lt h
theorem nearest_low (neg : Bool) (mag : Nat) (place : Int) (E : Nat) (hE : 2 ≤ E) (hE2 : E ≤ 2046) (h : mag ≠ 0 → place + mag.log2 + 1024 ≤ E) : Low (double.nearest neg mag place) E := by
  unfold Format.nearest
  split
  · unfold Low
    rw [word_mod _ _ (by omega)]
    omega
  · rename_i hm
    have h := h hm
    have hl : double.leastPlace = -1074 := by decide
    have hf : double.fractionBits = 52 := rfl
    have hb : double.binade = 4503599627370496 := rfl
    dsimp only
    rw [hl, hf, hb]
    obtain ⟨last, hlast⟩ : ∃ last : Int, max (place + mag.log2 - ((52 : Nat) : Int)) (-1074) = last := ⟨_, rfl⟩
    rw [hlast]
    have h1 : place + mag.log2 - 52 ≤ last := by omega
    have h2 : -1074 ≤ last := by omega
    have h3 : last + 1074 + 2 ≤ E := by omega
    have hk : Toward.even.cut neg (mag <<< (place - last).toNat) (last - place).toNat ≤ 2 ^ 53 := by
      refine cut_le _ _ _ ?_
      rw [Nat.shiftLeft_eq]
      have hm2 : mag < 2 ^ (mag.log2 + 1) := Nat.lt_log2_self
      calc mag * 2 ^ (place - last).toNat < 2 ^ (mag.log2 + 1) * 2 ^ (place - last).toNat := Nat.mul_lt_mul_of_pos_right hm2 (Nat.two_pow_pos _)
        _ = 2 ^ (mag.log2 + 1 + (place - last).toNat) := (Nat.pow_add _ _ _).symm
        _ ≤ 2 ^ (53 + (last - place).toNat) := Nat.pow_le_pow_right (by omega) (by omega)
    obtain ⟨K, hK⟩ : ∃ K, Toward.even.cut neg (mag <<< (place - last).toNat) (last - place).toNat = K := ⟨_, rfl⟩
    obtain ⟨R, hR⟩ : ∃ R, double.infRung = R := ⟨_, rfl⟩
    rw [hK] at hk ⊢
    rw [hR]
    clear hK hR hl hf hb
    unfold Low
    have hr : (last - -1074).toNat * 4503599627370496 + K ≤ E * 4503599627370496 := by omega
    rw [word_mod]
    · omega
    · have : min ((last - -1074).toNat * 4503599627370496 + K) R ≤ E * 4503599627370496 := Nat.le_trans (Nat.min_le_left _ _) hr
      omega
/-- What a word that is not great reads as. -/
theorem read_low {x E : Nat} (h : Low x E) (hE : E ≤ 2046) : ∃ s m i, double.read x = .number s m i ∧ m < 2 ^ 53 ∧ -1074 ≤ i ∧ i + 1075 ≤ max E 1 := by
  have hs : double.signWeight = 9223372036854775808 := rfl
  have hl : double.leastPlace = -1074 := by decide
  have hb : double.binade = 4503599627370496 := rfl
  have hi : double.infRung = 9218868437227405312 := rfl
  unfold Low at h
  unfold Format.read
  simp only [hs, hl, hb, hi]
  split
  · exact ⟨_, _, _, rfl, by omega, by omega, by omega⟩
  · rw [if_pos (by omega)]
    refine ⟨_, _, _, rfl, by omega, by omega, ?_⟩
    have : x % 9223372036854775808 / 4503599627370496 ≤ E := by omega
    omega
theorem log2_lt {m k : Nat} (h : m < 2 ^ k) (hm : m ≠ 0) : m.log2 < k := (Nat.log2_lt hm).2 h
theorem mul_low {x y A B E : Nat} (hx : Low x A) (hy : Low y B) (hA : A ≤ 2046) (hB : B ≤ 2046) (hE : 2 ≤ E) (hE2 : E ≤ 2046) (h : max A 1 + max B 1 ≤ E + 1021) : ∃ r, double.mul x y = some r ∧ Low r E := by
  obtain ⟨s, m, i, e1, m1, i1, i2⟩ := read_low hx hA
  obtain ⟨t, n, j, e2, m2, j1, j2⟩ := read_low hy hB
  refine ⟨_, by unfold Format.mul; rw [e1, e2]; rfl, nearest_low _ _ _ _ hE hE2 fun hmn => ?_⟩
  have hmn2 : m * n < 2 ^ 106 := by
    calc m * n < 2 ^ 53 * 2 ^ 53 := Nat.mul_lt_mul'' m1 m2
      _ = 2 ^ 106 := by decide
  have := log2_lt hmn2 hmn
  omega
theorem ofNat_low (neg : Bool) (n : Nat) (h : n < 2 ^ 64) : Low (double.nearest neg n 0) 1087 := by
  refine nearest_low _ _ _ _ (by omega) (by omega) fun hn => ?_
  have := log2_lt h hn
  omega
theorem neg_low {x E : Nat} (h : Low x E) : Low (x + 9223372036854775808) E ∧ Low (x % 9223372036854775808) E := by unfold Low at *; omega
end PF
/- A quotient's greatness; the short way of ParseFloat over a table of powers. No condition. -/
namespace PF
open Ieee
def High (x B : Nat) : Prop := B * 4503599627370496 ≤ x % 9223372036854775808
theorem read_high {x E B : Nat} (h : Low x E) (hE : E ≤ 2046) (hb : High x B) (hB : 1 ≤ B) : ∃ s m i, double.read x = .number s m i ∧ 4503599627370496 ≤ m ∧ (B : Int) ≤ i + 1075 := by
  have hs : double.signWeight = 9223372036854775808 := rfl
  have hl : double.leastPlace = -1074 := by decide
  have hbi : double.binade = 4503599627370496 := rfl
  have hi : double.infRung = 9218868437227405312 := rfl
  unfold Low at h
  unfold High at hb
  unfold Format.read
  simp only [hs, hl, hbi, hi]
  rw [if_neg (by omega), if_pos (by omega)]
  refine ⟨_, _, _, rfl, by omega, ?_⟩
  have : B ≤ x % 9223372036854775808 / 4503599627370496 := by omega
  omega
theorem quot_log {m n k : Nat} (hn : n ≠ 0) (b : Bool) (h : 2 * ((m <<< k) / n) + b.toNat ≠ 0) : (2 * ((m <<< k) / n) + b.toNat).log2 + n.log2 ≤ m.log2 + 1 + k ∨ m.log2 + 1 + k < n.log2 := by
  by_cases hc : m.log2 + 1 + k < n.log2
  · exact .inr hc
  left
  have hb : b.toNat ≤ 1 := by cases b <;> decide
  have h1 : m < 2 ^ (m.log2 + 1) := Nat.lt_log2_self
  have h2 : 2 ^ n.log2 ≤ n := Nat.log2_self_le hn
  have h3 : (m <<< k) / n < 2 ^ (m.log2 + 1 + k - n.log2) := by
    rw [Nat.shiftLeft_eq, Nat.div_lt_iff_lt_mul (by omega)]
    refine Nat.lt_of_lt_of_le (m := 2 ^ (m.log2 + 1) * 2 ^ k) (Nat.mul_lt_mul_of_pos_right h1 (Nat.two_pow_pos _)) ?_
    rw [← Nat.pow_add]
    refine Nat.le_trans ?_ (Nat.mul_le_mul_left _ h2)
    rw [← Nat.pow_add]
    exact Nat.pow_le_pow_right (by omega) (by omega)
  have h4 : 2 * ((m <<< k) / n) + b.toNat < 2 ^ (m.log2 + 1 + k - n.log2 + 1) := by
    rw [Nat.pow_succ]
    omega
  have := log2_lt h4 h
  omega
theorem div_low {x y A B C E : Nat} (hx : Low x A) (hy : Low y C) (hyb : High y B) (hA : A ≤ 2046) (hC : C ≤ 2046) (hB : 1 ≤ B) (hE : 2 ≤ E) (hE2 : E ≤ 2046) (h : max A 1 + 1025 ≤ E + B) : ∃ r, double.div x y = some r ∧ Low r E := by
  obtain ⟨s, m, i, e1, m1, i1, i2⟩ := read_low hx hA
  obtain ⟨t, n, j, e2, n1, j1⟩ := read_high hy hC hyb hB
  have hn0 : n ≠ 0 := by omega
  have e3 : (Datum.number s m i).quotient (double.fractionBits + 2) (.number t n j) = some (.number (s ^^ t) (2 * ((m <<< (double.fractionBits + 2 + n.log2 - m.log2)) / n) + ((m <<< (double.fractionBits + 2 + n.log2 - m.log2)) % n != 0).toNat) (i - j - ((double.fractionBits + 2 + n.log2 - m.log2 : Nat) : Int) - 1)) := by
    simp only [Datum.quotient]
    rw [if_neg hn0]
  refine ⟨_, by unfold Format.div; rw [e1, e2, e3]; rfl, nearest_low _ _ _ _ hE hE2 fun hmn => ?_⟩
  have hf : double.fractionBits = 52 := rfl
  rw [hf] at hmn ⊢
  have hl := quot_log hn0 _ hmn
  have hml : m.log2 ≤ 52 := by
    by_cases hm : m = 0
    · subst hm; decide
    · have := log2_lt m1 hm; omega
  have hnl : 52 ≤ n.log2 := (Nat.le_log2 hn0).2 (by omega)
  omega
def mulF (x y : Nat) : Nat := (double.mul x y).getD 0
def divF (x y : Nat) : Nat := (double.div x y).getD 0
end PF
/- The middle way of ParseFloat (scaling by a table of powers), in plain Lean, and what its answer is like. No condition. -/
namespace PF
def two64 : Nat := 18446744073709551616
def blen (n : Nat) : Nat := if n = 0 then 0 else n.log2 + 1
theorem blen_le {n : Nat} (h : n < 18446744073709551616) : blen n ≤ 64 := by
  unfold blen
  split
  · omega
  · rename_i hn
    have := (Nat.log2_lt hn).2 (show n < 2 ^ 64 by omega)
    omega
/-- log2 of a power of ten. -/
def lpow (p : Int) : Int := p * 108853 / 32768
def pE (d : Nat) (p : Int) : Int := min 1074 (53 - blen d - lpow p)
def pS (d : Nat) (p : Int) : Int := -(pE d p - (64 - blen d) + lpow p + 3)
theorem pS_ge (d : Nat) (p : Int) : 8 ≤ pS d p := by unfold pS pE; omega
/-- The scaled number, a table's cell at hand. -/
def usc (x : Nat) (c : Nat × Nat) (s : Nat) : Nat :=
  let hi := x * c.1 / two64
  let mid := x * c.1 % two64
  if hi / 2 ^ s * 2 ^ s = hi then
    let mid2 := x * c.2 / two64
    ((hi + two64 - (decide (mid < mid2)).toNat) % two64 / 2 ^ s) ||| (decide (1 < (mid + two64 - mid2) % two64)).toNat
  else (hi / 2 ^ s) ||| 1
def rnd (u : Nat) : Nat := (u + 1 + u / 4 % 2) / 4
/-- A mantissa and an exponent put together: the bits, is it too great? -/
def pack (m : Nat) (e : Int) : Nat × Bool :=
  if m / 4503599627370496 % 2 = 0 then (m, false)
  else if 972 ≤ e then ((m / 9223372036854775808 % 2) * 9223372036854775808 + 9218868437227405312, true)
  else (m - 4503599627370496 + (1075 + e).toNat * 4503599627370496, false)
def sgn (neg : Bool) : Nat := if neg then 9223372036854775808 else 0
/-- A number of at most 19 digits times a power of ten. -/
def par64 (T : Int → Nat × Nat) (d : Nat) (p : Int) (neg : Bool) : Nat × Bool :=
  if 64 ≤ pS d p then (sgn neg, false)
  else
    let u := usc (d * 2 ^ (64 - blen d) % two64) (T p) (pS d p).toNat
    let b := decide (36028797018963966 ≤ u)
    let v := if b then u / 2 ||| u % 2 else u
    pack (sgn neg + rnd v) (-(pE d p - (if b then 1 else 0)))
theorem or_lt {a b k : Nat} (ha : a < 2 ^ k) (hb : b < 2 ^ k) : a ||| b < 2 ^ k := Nat.or_lt_two_pow ha hb
theorem usc_lt (x s : Nat) (c : Nat × Nat) (hx : x < two64) (hc : c.1 < two64) (hs : 8 ≤ s) : usc x c s < 72057594037927936 := by
  have h56 : (72057594037927936 : Nat) = 2 ^ 56 := by decide
  have hdiv : ∀ y, y < two64 → y / 2 ^ s < 72057594037927936 := by
    intro y hy
    refine Nat.lt_of_le_of_lt (Nat.div_le_div_left (Nat.pow_le_pow_right (by omega) hs) (Nat.two_pow_pos _)) ?_
    unfold two64 at hy
    show y / 256 < _
    omega
  have hb : ∀ b : Bool, b.toNat < 2 ^ 56 := by intro b; cases b <;> decide
  have h64 : 0 < two64 := by decide
  unfold usc
  dsimp only
  split
  · rw [h56]
    exact or_lt (h56 ▸ hdiv _ (Nat.mod_lt _ h64)) (hb _)
  · rw [h56]
    refine or_lt (h56 ▸ hdiv _ ?_) (by decide)
    rw [Nat.div_lt_iff_lt_mul h64]
    exact Nat.mul_lt_mul'' hx hc
/-- The mantissa that comes of it, and that the answer is finite just if nothing is said. -/
def Inf (x : Nat) : Prop := x % 9223372036854775808 = 9218868437227405312
theorem pack_fin (neg : Bool) (r : Nat) (e : Int) (hr : r ≤ 9007199254740992) (he : -1074 ≤ e) : ((pack (sgn neg + r) e).2 = false → Fin (pack (sgn neg + r) e).1) ∧ ((pack (sgn neg + r) e).2 = true → Inf (pack (sgn neg + r) e).1) ∧ (pack (sgn neg + r) e).1 < 18446744073709551616 := by
  have hs : sgn neg = 0 ∨ sgn neg = 9223372036854775808 := by unfold sgn; split <;> simp
  unfold pack Fin Inf
  split
  · refine ⟨fun _ => ?_, fun h => (by cases h), ?_⟩
    · simp only; omega
    · simp only; omega
  · split
    · refine ⟨fun h => (by cases h), fun _ => ?_, ?_⟩
      · simp only; omega
      · simp only; omega
    · refine ⟨fun _ => ?_, fun h => (by cases h), ?_⟩
      · simp only; omega
      · simp only; omega
theorem half_or (u : Nat) (h : u < 72057594037927936) : u / 2 ||| u % 2 < 36028797018963968 := by
  have e : (36028797018963968 : Nat) = 2 ^ 55 := by decide
  rw [e]
  exact or_lt (by omega) (by omega)
theorem par64_fin (T : Int → Nat × Nat) (hT : ∀ p, (T p).1 < two64) (d : Nat) (p : Int) (neg : Bool) : ((par64 T d p neg).2 = false → Fin (par64 T d p neg).1) ∧ ((par64 T d p neg).2 = true → Inf (par64 T d p neg).1) ∧ (par64 T d p neg).1 < 18446744073709551616 := by
  unfold par64
  by_cases h : 64 ≤ pS d p
  · rw [if_pos h]
    refine ⟨fun _ => ?_, fun h => (by cases h), ?_⟩
    · unfold Fin sgn; simp only; split <;> omega
    · unfold sgn; simp only; split <;> omega
  · rw [if_neg h]
    have hu := usc_lt (d * 2 ^ (64 - blen d) % two64) (pS d p).toNat (T p) (Nat.mod_lt _ (by decide)) (hT p) (by have := pS_ge d p; omega)
    obtain ⟨u, hu'⟩ : ∃ u, usc (d * 2 ^ (64 - blen d) % two64) (T p) (pS d p).toNat = u := ⟨_, rfl⟩
    have he : -1074 ≤ -(pE d p) := by unfold pE; omega
    rw [hu'] at hu
    dsimp only
    rw [hu']
    have ho := half_or u hu
    by_cases hb : 36028797018963966 ≤ u
    · simp only [hb, decide_true, if_true]
      refine pack_fin neg _ _ ?_ (by omega)
      unfold rnd
      omega
    · simp only [hb, decide_false, if_false, Bool.false_eq_true]
      refine pack_fin neg _ _ ?_ (by omega)
      unfold rnd
      omega
end PF
/- The short way of ParseFloat: a product or a quotient of floats. No condition. -/
namespace PF
open Ieee
/-- The table of the 23 powers of ten, as floats. -/
def TabOk (T : Nat → Nat) : Prop := ∀ k, k ≤ 22 → Low (T k) 1096 ∧ High (T k) 1023 ∧ T k < 9223372036854775808
def e15 : Nat := 4831355200913801216
def ne15 : Nat := 14054727237768577024
def flt (man : Nat) (neg : Bool) : Nat := Go.floatOfInt .f64 (man : Int) + sgn neg
def gtF (x y : Nat) : Bool := double.order x y == some .gt
def ltF (x y : Nat) : Bool := double.order x y == some .lt
/-- With an exponent above nought. -/
def exU (T : Nat → Nat) (f : Nat) (p : Nat) : Option Nat :=
  let g := if 22 < p then mulF f (T (p - 22)) else f
  if gtF g e15 || ltF g ne15 then none else some (mulF g (T (min p 22)))
def exact64 (T : Nat → Nat) (man : Nat) (p : Int) (neg : Bool) : Option Nat :=
  if man / 4503599627370496 ≠ 0 then none
  else if p = 0 then some (flt man neg)
  else if 0 < p ∧ p ≤ 37 then exU T (flt man neg) p.toNat
  else if p < 0 ∧ -22 ≤ p then some (divF (flt man neg) (T (-p).toNat))
  else none
theorem ofInt_eq (man : Nat) : Go.floatOfInt .f64 (man : Int) = double.nearest false man 0 := by
  have : decide ((man : Int) < 0) = false := by simp
  show double.nearest (decide ((man : Int) < 0)) (man : Int).natAbs 0 = _
  rw [this, Int.natAbs_natCast]
theorem word_false_lt (r : Nat) (h : r ≤ 9218868437227405312) : double.word false r < 9223372036854775808 := by
  unfold Format.word
  simp only [Bool.false_eq_true, if_false]
  omega
theorem nearest_pos (mag : Nat) (place : Int) : double.nearest false mag place < 9223372036854775808 := by
  unfold Format.nearest
  split
  · exact word_false_lt _ (by omega)
  · have e : double.infRung = 9218868437227405312 := rfl
    dsimp only
    refine word_false_lt _ (Nat.le_trans (Nat.min_le_right _ _) (Nat.le_of_eq e))
theorem flt_low (man : Nat) (neg : Bool) (h : man < 18446744073709551616) : Low (flt man neg) 1087 ∧ flt man neg < 18446744073709551616 := by
  have h1 := ofNat_low false man h
  have h2 := nearest_pos man 0
  unfold flt
  rw [ofInt_eq]
  unfold sgn
  split
  · exact ⟨(neg_low h1).1, by omega⟩
  · exact ⟨h1, by omega⟩
theorem mulF_eq {x y A B E : Nat} (hx : Low x A) (hy : Low y B) (hA : A ≤ 2046) (hB : B ≤ 2046) (hE : 2 ≤ E) (hE2 : E ≤ 2046) (h : max A 1 + max B 1 ≤ E + 1021) : double.mul x y = some (mulF x y) ∧ Low (mulF x y) E ∧ mulF x y < 18446744073709551616 := by
  obtain ⟨r, h1, h2⟩ := mul_low hx hy hA hB hE hE2 h
  have h3 := double.mul_lt h1
  unfold mulF
  rw [h1]
  exact ⟨rfl, h2, h3⟩
theorem divF_eq {x y A B C E : Nat} (hx : Low x A) (hy : Low y C) (hyb : High y B) (hA : A ≤ 2046) (hC : C ≤ 2046) (hB : 1 ≤ B) (hE : 2 ≤ E) (hE2 : E ≤ 2046) (h : max A 1 + 1025 ≤ E + B) : double.div x y = some (divF x y) ∧ Low (divF x y) E ∧ divF x y < 18446744073709551616 := by
  obtain ⟨r, h1, h2⟩ := div_low hx hy hyb hA hC hB hE hE2 h
  have h3 := double.div_lt h1
  unfold divF
  rw [h1]
  exact ⟨rfl, h2, h3⟩
theorem exU_fin {T : Nat → Nat} (hT : TabOk T) {f p : Nat} (hf : Low f 1087) (hp : p ≤ 37) {r : Nat} (h : exU T f p = some r) : Fin r ∧ r < 18446744073709551616 := by
  unfold exU at h
  by_cases hp2 : 22 < p
  · have t1 := hT (p - 22) (by omega)
    have t2 := hT (min p 22) (by omega)
    have m1 := mulF_eq (E := 1170) hf t1.1 (by omega) (by omega) (by omega) (by omega) (by omega)
    have m2 := mulF_eq (E := 1400) m1.2.1 t2.1 (by omega) (by omega) (by omega) (by omega) (by omega)
    simp only [hp2, if_true] at h
    split at h
    · cases h
    · cases h
      exact ⟨m2.2.1.fin (by omega), m2.2.2⟩
  · have t2 := hT (min p 22) (by omega)
    have m2 := mulF_eq (E := 1400) hf t2.1 (by omega) (by omega) (by omega) (by omega) (by omega)
    simp only [hp2, if_false] at h
    split at h
    · cases h
    · cases h
      exact ⟨m2.2.1.fin (by omega), m2.2.2⟩
theorem exact64_fin {T : Nat → Nat} (hT : TabOk T) {man : Nat} {p : Int} {neg : Bool} {r : Nat} (h : exact64 T man p neg = some r) : Fin r ∧ r < 18446744073709551616 := by
  unfold exact64 at h
  split at h
  · cases h
  · rename_i hm
    have hf := flt_low man neg (by omega)
    split at h
    · cases h
      exact ⟨hf.1.fin (by omega), hf.2⟩
    · split at h
      · exact exU_fin hT hf.1 (by omega) h
      · split at h
        · cases h
          have t := hT (-p).toNat (by omega)
          have m := divF_eq (E := 1500) hf.1 t.1 t.2.1 (by omega) (by omega) (by omega) (by omega) (by omega) (by omega)
          exact ⟨m.2.1.fin (by omega), m.2.2⟩
        · cases h
end PF
/- Bits of words. No condition. -/
namespace PF
theorem and_pow (m k : Nat) : m &&& 2 ^ k = m / 2 ^ k % 2 * 2 ^ k := by
  apply Nat.eq_of_testBit_eq
  intro i
  rw [Nat.testBit_and, Nat.testBit_two_pow, Nat.testBit_mul_two_pow]
  by_cases h : k = i
  · subst h
    simp only [decide_true, Bool.and_true, Nat.le_refl, Bool.true_and, Nat.sub_self, Nat.testBit_zero, Nat.mod_mod]
    rw [← Nat.shiftRight_eq_div_pow]
    simp [Nat.testBit, Nat.one_and_eq_mod_two]
  · simp only [h, decide_false, Bool.and_false]
    by_cases h2 : k ≤ i
    · have : (m / 2 ^ k % 2).testBit (i - k) = false := Nat.testBit_lt_two_pow (Nat.lt_of_lt_of_le (Nat.mod_lt _ (by omega)) (by
        have : 2 ^ 1 ≤ 2 ^ (i - k) := Nat.pow_le_pow_right (by omega) (by omega)
        simpa using this))
      rw [this, Bool.and_false]
    · simp [h2]
theorem andNot52 (neg : Bool) (lo : Nat) (h : lo < 4503599627370496) : (sgn neg + (4503599627370496 + lo)) &&& 18442240474082181119 = sgn neg + lo := by
  have hl : lo < 2 ^ 52 := h
  have e0 : 4503599627370496 + lo = 4503599627370496 ||| lo := (Nat.two_pow_add_eq_or_of_lt hl 1)
  have hx : 4503599627370496 + lo < 2 ^ 63 := by have : (2 : Nat) ^ 63 = 9223372036854775808 := by decide
                                                 omega
  have hy : lo < 2 ^ 63 := by have : (2 : Nat) ^ 63 = 9223372036854775808 := by decide
                              omega
  have c1 : lo &&& 18442240474082181119 = lo := by
    have e1 : lo &&& 4503599627370495 = lo := by
      have := Nat.and_two_pow_sub_one_eq_mod lo 52
      rw [Nat.mod_eq_of_lt hl] at this
      exact this
    have e2 : 4503599627370495 &&& 18442240474082181119 = 4503599627370495 := by decide
    conv => lhs; rw [← e1]
    rw [Nat.and_assoc, e2, e1]
  have e3 : ∀ z, z < 2 ^ 63 → sgn neg + z = sgn neg ||| z := by
    intro z hz
    cases neg
    · simp [sgn]
    · exact Nat.two_pow_add_eq_or_of_lt hz 1
  rw [e3 _ hx, e0, e3 _ hy, Nat.and_or_distrib_right, Nat.and_or_distrib_right, c1]
  have e4 : sgn neg &&& 18442240474082181119 = sgn neg := by cases neg <;> decide
  have e5 : 4503599627370496 &&& 18442240474082181119 = 0 := by decide
  rw [e4, e5, Nat.zero_or]
theorem or_exp (neg : Bool) (lo x : Nat) (h : lo < 4503599627370496) (hx : x < 2048) : (sgn neg + lo) ||| x * 4503599627370496 = sgn neg + lo + x * 4503599627370496 := by
  have hl : lo < 2 ^ 52 := h
  have hp : (2 : Nat) ^ 63 = 9223372036854775808 := by decide
  have e3 : ∀ z, z < 2 ^ 63 → sgn neg + z = sgn neg ||| z := by
    intro z hz
    cases neg
    · simp [sgn]
    · exact Nat.two_pow_add_eq_or_of_lt hz 1
  rw [Nat.add_assoc, e3 lo (by omega), e3 (lo + x * 4503599627370496) (by omega), Nat.or_assoc]
  congr 1
  rw [Nat.or_comm, Nat.add_comm lo]
  have := Nat.two_pow_add_eq_or_of_lt hl x
  rw [Nat.mul_comm x]
  exact this.symm
theorem or_sgn (neg : Bool) (z : Nat) (h : z < 9223372036854775808) : sgn neg ||| z = sgn neg + z := by
  cases neg
  · simp [sgn]
  · exact (Nat.two_pow_add_eq_or_of_lt (i := 63) h 1).symm
theorem or_mod2 (u : Nat) : u ||| u % 2 = u := by
  rw [← Nat.and_one_is_mod]
  apply Nat.eq_of_testBit_eq
  intro i
  rw [Nat.testBit_or, Nat.testBit_and]
  cases u.testBit i <;> simp
end PF
/- The small functions of ParseFloat's middle way. No condition. -/
namespace Go.Proofs.YtigicmnngppipaaGreatDoor
open Go.RowKit
set_option maxRecDepth 100000
theorem lpow_walk (p : Int) (hp : -1000 ≤ p) (hp2 : p ≤ 1000) (w : World) : Calls Tryz.prog 211 #[.int .i64 p] w fun e w' => e = .returned (.int .i64 (PF.lpow p)) ∧ w = w' := by
  unfold PF.lpow
  go_enter Tryz.func211, Tryz.ntmps211
  go_wp2
  go_ret
  exact ⟨rfl, rfl⟩
theorem unmin53 (w : World) : Calls Tryz.prog 217 #[.int .u64 9007199254740992] w fun e w' => e = .returned (.int .u64 36028797018963966) ∧ w = w' := by
  go_enter Tryz.func217, Tryz.ntmps217
  go_wp2
  go_ret
  exact ⟨rfl, rfl⟩
theorem bool160 (b : Bool) (w : World) : Calls Tryz.prog 151 #[.bool b] w fun e w' => e = .returned (.int .i64 (b.toNat : Int)) ∧ w = w' := by
  cases b <;>
  · go_enter Tryz.func151, Tryz.ntmps151
    go_wp2
    go_ret
    exact ⟨rfl, rfl⟩
theorem bool213 (b : Bool) (w : World) : Calls Tryz.prog 238 #[.bool b] w fun e w' => e = .returned (.int .u64 (b.toNat : Int)) ∧ w = w' := by
  cases b <;>
  · go_enter Tryz.func238, Tryz.ntmps238
    go_wp2
    go_ret
    exact ⟨rfl, rfl⟩
theorem round245 (u : Nat) (hu : u < 72057594037927936) (w : World) : Calls Tryz.prog 216 #[.int .u64 (u : Int)] w fun e w' => e = .returned (.int .u64 (PF.rnd u : Int)) ∧ w = w' := by
  have b1 : ∀ n : Nat, n < 18446744073709551616 → bits BinOp.and IntKind.u64 (n : Int) 1 = ((n % 2 : Nat) : Int) := by
    intro n hn
    have h := bits_and_u64_nat n 1 hn (by omega)
    rw [Nat.and_one_is_mod] at h
    exact h
  have e1 : (u : Int) / 4 = ((u / 4 : Nat) : Int) := by omega
  have b2 := b1 (u / 4) (by omega)
  rw [← e1] at b2
  clear b1 e1
  unfold PF.rnd
  go_enter Tryz.func216, Tryz.ntmps216
  go_wp2
  go_ret
  refine ⟨?_, rfl⟩
  congr 2
end Go.Proofs.YtigicmnngppipaaGreatDoor
