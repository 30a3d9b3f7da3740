/- Several texts of this proof, laid together. Conditions: as each says. -/
import Derived.Test.YtagiddbfhlokcaaGreatDoorMAL
import Derived.Deep.CutBlock
import Derived.WalkMore
import Derived.Outline
/- A quoted text is read: value's unquote. Condition: the text's length. -/
namespace Go.Proofs.YtagiddbfhlokcaaGreatDoor
open Go.RowKit
set_option maxRecDepth 100000
/-- A value, of the program's type. -/
def val (k b : Int) (t : ByteArray) : Value := .agg #[.int .i64 k, .int .u64 b, .string t]
/-- A quoted text's value, and the error's number. -/
def unqV (o : Option (List UInt8)) : Value × Int := match o with
  | none => (val 0 0 ⟨#[]⟩, 2)
  | some t => if 65536 < t.length then (val 0 0 ⟨#[]⟩, 4) else (val 4 0 (bs t), 0)
theorem unq_close (d : UInt8) (t : List UInt8) : PF.unq (34 :: d :: t) = none := by unfold PF.unq; rw [if_pos (.inl rfl)]
theorem unq_line (t : List UInt8) : PF.unq (10 :: t) = none := by
  cases t with
  | nil => rfl
  | cons d t => unfold PF.unq; rw [if_pos (.inr rfl)]
theorem unq_esc (d : UInt8) (t : List UInt8) : PF.unq (92 :: d :: t) = (if d = 34 ∨ d = 92 then (PF.unq t).map (d :: ·) else if d = 110 then (PF.unq t).map (10 :: ·) else none) := by
  conv => lhs; unfold PF.unq
  rw [if_neg (by decide), if_pos rfl]
theorem unq_plain (c : UInt8) (t : List UInt8) (h1 : c ≠ 34) (h2 : c ≠ 10) (h3 : c ≠ 92) : PF.unq (c :: t) = (PF.unq t).map (c :: ·) := by
  cases t with
  | nil => unfold PF.unq; rw [if_neg h1]; rfl
  | cons d t =>
    conv => lhs; unfold PF.unq
    rw [if_neg (by simp [h1, h2]), if_neg h3]
theorem byteCells_app (l : List UInt8) (c : UInt8) : Lib.byteCells (l ++ [c]) = Lib.byteCells l ++ [.int .u8 c.toNat] := by
  simp [Lib.byteCells]
theorem byteCells_len (l : List UInt8) : (Lib.byteCells l).length = l.length := by simp [Lib.byteCells]
theorem idxE (d : UInt8) (w : World) : Calls Tryz.prog 70 #[.string ⟨#[34, 92, 110]⟩, .int .u8 d.toNat] w fun e w' => e = .returned (.int .i64 (if d = 34 then 0 else if d = 92 then 1 else if d = 110 then 2 else -1)) ∧ w = w' := by
  refine (Tryz.strings_IndexByte ⟨#[34, 92, 110]⟩ d.toNat w).mono ?_
  rintro e w' ⟨rfl, h⟩
  refine ⟨?_, h.symm⟩
  have : ((d.toNat : Int).toNat.toUInt8) = d := by simp
  rw [this]
  congr 2
  have key : ∀ n : Fin 256, (Lib.indexByte [34, 92, 110] (UInt8.ofNat n.val)) = (if UInt8.ofNat n.val = 34 then (0 : Int) else if UInt8.ofNat n.val = 92 then 1 else if UInt8.ofNat n.val = 110 then 2 else -1) := by decide +kernel
  have := key ⟨d.toNat, d.toNat_lt⟩
  simpa using this
def InUnq (r : List UInt8) (B : Nat) (w : World) (v : Value) (wr : World) : Prop :=
  ∃ (t l : List UInt8), v = .string (bs t) ∧ PF.unq r = (PF.unq t).map (l ++ ·) ∧ l.length + t.length ≤ r.length ∧ Lib.IsBuilder 117 5 B B (Lib.byteCells l) wr ∧ Below B w wr
def sizeOfV : Value → Nat
  | .string t => t.size
  | _ => 0
theorem map_app (o : Option (List UInt8)) (l : List UInt8) (c : UInt8) : (o.map (c :: ·)).map (l ++ ·) = o.map ((l ++ [c]) ++ ·) := by
  cases o <;> simp
theorem byte_eq (c : UInt8) (n : Nat) (hn : n < 256) (h : c = UInt8.ofNat n) : ((c.toNat : Int) == (n : Int)) = true := by
  subst h; simp; omega
theorem byte_ne (c : UInt8) (n : Nat) (hn : n < 256) (h : c ≠ UInt8.ofNat n) : ((c.toNat : Int) == (n : Int)) = false := by
  rw [beq_eq_false_iff_ne]
  intro e
  apply h
  apply UInt8.toNat_inj.1
  simp
  omega
theorem heap_setCell_same (w : World) (B k : Nat) (cs : Array Value) (T : TypeId) (u : Value) (h : w.heap[B]? = some (.cells cs T (0, 0))) : (w.setCell ⟨B, k, none⟩ u).heap[B]? = some (.cells (cs.setIfInBounds k u) T (0, 0)) := by
  simp [World.setCell, Array.getElem?_modify, h]
theorem results53 {F : Func} (hF : F.results = #[.cell 2 53, .tmp 3]) {tmps : Array Value} {wr : World} {B : Nat} {x y z a b c : Value} (hb : tmps.getD 2 undef = .pointer (some ⟨B, 0, none⟩)) (hk : wr.heap[B]? = some (.cells #[a, b, c] 53 (0, 0))) :
    (results F tmps).run Tryz.prog (((wr.setCell ⟨B, 0, none⟩ x).setCell ⟨B, 1, none⟩ y).setCell ⟨B, 2, none⟩ z) = .ok (.tuple #[.agg #[x, y, z], tmps.getD 3 undef]) (((wr.setCell ⟨B, 0, none⟩ x).setCell ⟨B, 1, none⟩ y).setCell ⟨B, 2, none⟩ z) := by
  have h1 := heap_setCell_same _ B 0 _ _ x hk
  have h2 := heap_setCell_same _ B 1 _ _ y h1
  have h3 := heap_setCell_same _ B 2 _ _ z h2
  obtain ⟨w2, hw⟩ : ∃ w2, ((wr.setCell ⟨B, 0, none⟩ x).setCell ⟨B, 1, none⟩ y).setCell ⟨B, 2, none⟩ z = w2 := ⟨_, rfl⟩
  rw [hw] at h3 ⊢
  have c0 : w2.cell? ⟨B, 0, none⟩ = some x := Lib.cell_of_heap h3 0
  have c1 : w2.cell? ⟨B, 1, none⟩ = some y := Lib.cell_of_heap h3 1
  have c2 : w2.cell? ⟨B, 2, none⟩ = some z := Lib.cell_of_heap h3 2
  have hb' : tmps[2]?.getD undef = .pointer (some ⟨B, 0, none⟩) := by simpa using hb
  simp [results, hF, hb', c0, c1, c2, go_sem]
/-- The result's cells, behind the loop. -/
theorem resFacts {w w' : World} (h : Below (w.heap.size + 1) (w.alloc (.cells #[.int .i64 0, .int .u64 0, .string ⟨#[]⟩] 53 (0, 0))) w') :
    w'.cell? ⟨w.heap.size, 0, none⟩ = some (.int .i64 0) ∧ w'.cell? ⟨w.heap.size, 1, none⟩ = some (.int .u64 0) ∧ w'.cell? ⟨w.heap.size, 2, none⟩ = some (.string ⟨#[]⟩) ∧
    w'.frozen? ⟨w.heap.size, 0, none⟩ = false ∧ w'.frozen? ⟨w.heap.size, 1, none⟩ = false ∧ w'.frozen? ⟨w.heap.size, 2, none⟩ = false ∧ w'.heap[w.heap.size]? = some (.cells #[.int .i64 0, .int .u64 0, .string ⟨#[]⟩] 53 (0, 0)) ∧ Below w.heap.size w w' := by
  have hb : w'.heap[w.heap.size]? = some (.cells #[.int .i64 0, .int .u64 0, .string ⟨#[]⟩] 53 (0, 0)) := by
    rw [h.block _ (by omega)]
    show (w.heap.push _)[w.heap.size]? = _
    rw [Array.getElem?_push_size]
  have hs := h.size
  simp only [World.size_alloc] at hs
  exact ⟨Lib.cell_of_heap hb 0, Lib.cell_of_heap hb 1, Lib.cell_of_heap hb 2, Lib.frozen_of_heap hb 0, Lib.frozen_of_heap hb 1, Lib.frozen_of_heap hb 2, hb, ((Below.refl _ _).alloc (Nat.le_refl _) _).trans (h.mono (by omega))⟩
set_option maxHeartbeats 4000000 in
theorem unquote56 (a : UInt8) (r : List UInt8) (hr : r.length ≤ 140737488355327) (w : World) : Calls Tryz.prog 56 #[.string (bs (a :: r))] w fun e w' => e = .returned (.tuple #[(unqV (PF.unq r)).1, .int .i64 (unqV (PF.unq r)).2]) ∧ Below w.heap.size w w' := by
  obtain ⟨hsz0, hg0, hem0, h0i0, h1i0, htl0⟩ := bs_head (r := a :: r) rfl
  go_enter Tryz.func56, Tryz.ntmps56
  have W2 : Below w.heap.size w w := Below.refl _ _
  go_wp2_with fail
  go_loopw [5] (fun v wr => InUnq r (w.heap.size + 1) (w.alloc (.cells #[.int .i64 0, .int .u64 0, .string ⟨#[]⟩] 53 (0, 0))) v wr) (fun v _ => sizeOfV v)
  case atStart => 
    refine ⟨r, [], rfl, by cases PF.unq r <;> rfl, by simp, ?_, (Below.refl _ _).alloc (by simp) _⟩
    have := Lib.fresh_isBuilder 117 5 (w.alloc (.cells #[.int .i64 0, .int .u64 0, .string ⟨#[]⟩] 53 (0, 0)))
    simp only [World.size_alloc] at this
    exact this
  case round =>
    obtain ⟨t, l, rfl, hun, hle, hbd, hb⟩ := hrel
    have HD := Lib.hid hbd
    have HB := Lib.hid hb
    have HUN := Lib.hid hun
    have hsz := HB.out.size
    simp only [World.size_alloc] at hsz
    clear hbd hb hun
    rcases list_cases t with e | ⟨c, u, e⟩
    · have e0 := bs_nil e
      have HUN2 : Hid (PF.unq r = none) := Lib.hid (by rw [HUN.out, e]; rfl)
      clear e
      obtain ⟨f0, f1, f2, g0, g1, g2, hk, hbw⟩ := resFacts HB.out
      have HBW := Lib.hid hbw
      have HK := Lib.hid hk
      clear hbw hk
      go_wp2_with fail
      refine bodyPost_ret (results53 (F := Tryz.f56) rfl rfl HK.out) rfl ?_
      exact ⟨by rw [HUN2.out]; rfl, ((HBW.out.setCell (Nat.le_refl _) _).setCell (Nat.le_refl _) _).setCell (Nat.le_refl _) _⟩
    · obtain ⟨hp, hg, hem, h0i, h1i, htl⟩ := bs_head e
      rw [e] at HUN
      have htlen : t.length = u.length + 1 := by rw [e]; rfl
      clear e
      by_cases h34 : c = 34
      · have c34 := byte_eq c 34 (by decide) h34
        subst h34
        rcases list_cases u with e | ⟨d, v, e⟩
        · have e0 := bs_nil e
          have HUN2 : Hid (PF.unq r = some l) := Lib.hid (by rw [HUN.out, e]; simp [PF.unq])
          clear e
          obtain ⟨f0, f1, f2, g0, g1, g2, hk, hbw⟩ := resFacts HB.out
          have HBW := Lib.hid hbw
          have HK := Lib.hid hk
          clear hbw hk
          go_wp2_with fail
          refine (Tryz.Builder_Len (w.heap.size + 1) (w.heap.size + 1) _ wr HD.out).mono ?_
          rintro e w1 ⟨rfl, rfl⟩
          have hbl : (Lib.byteCells l).length = l.length := byteCells_len l
          rw [hbl]
          by_cases hlen : 65536 < l.length
          · have hlz : (65536 : Int) < (l.length : Int) := by omega
            go_wp2_with fail
            refine bodyPost_ret (results53 (F := Tryz.f56) rfl rfl HK.out) rfl ?_
            exact ⟨by rw [HUN2.out]; simp only [unqV]; rw [if_pos hlen]; rfl, ((HBW.out.setCell (Nat.le_refl _) _).setCell (Nat.le_refl _) _).setCell (Nat.le_refl _) _⟩
          · have hlz : ¬((65536 : Int) < (l.length : Int)) := by omega
            go_wp2_with fail
            refine (Tryz.Builder_String_any (w.heap.size + 1) (w.heap.size + 1) _ _ HD.out hsz).mono ?_
            rintro e w2 ⟨rfl, hb2⟩
            have HB2 := Lib.hid (HB.out.trans hb2)
            clear f0 f1 f2 g0 g1 g2 hb2 HBW HK
            obtain ⟨f0, f1, f2, g0, g1, g2, hk, hbw⟩ := resFacts HB2.out
            have HBW := Lib.hid hbw
            have HK := Lib.hid hk
            clear hk hbw
            go_wp2_with fail
            refine bodyPost_ret (results53 (F := Tryz.f56) rfl rfl HK.out) rfl ?_
            exact ⟨by rw [HUN2.out]; simp only [unqV]; rw [if_neg hlen]; rfl, ((HBW.out.setCell (Nat.le_refl _) _).setCell (Nat.le_refl _) _).setCell (Nat.le_refl _) _⟩
        · obtain ⟨hp2, hg2, hem2, h0i2, h1i2, htl2⟩ := bs_head e
          have HUN2 : Hid (PF.unq r = none) := Lib.hid (by rw [HUN.out, e, unq_close]; rfl)
          clear e
          obtain ⟨f0, f1, f2, g0, g1, g2, hk, hbw⟩ := resFacts HB.out
          have HBW := Lib.hid hbw
          have HK := Lib.hid hk
          clear hbw hk
          go_wp2_with fail
          refine bodyPost_ret (results53 (F := Tryz.f56) rfl rfl HK.out) rfl ?_
          exact ⟨by rw [HUN2.out]; rfl, ((HBW.out.setCell (Nat.le_refl _) _).setCell (Nat.le_refl _) _).setCell (Nat.le_refl _) _⟩
      · have c34 := byte_ne c 34 (by decide) h34
        by_cases h10 : c = 10
        · have c10 := byte_eq c 10 (by decide) h10
          have HUN2 : Hid (PF.unq r = none) := Lib.hid (by rw [HUN.out, h10, unq_line]; rfl)
          clear h34 h10
          obtain ⟨f0, f1, f2, g0, g1, g2, hk, hbw⟩ := resFacts HB.out
          have HBW := Lib.hid hbw
          have HK := Lib.hid hk
          clear hbw hk
          go_wp2_with fail
          refine bodyPost_ret (results53 (F := Tryz.f56) rfl rfl HK.out) rfl ?_
          exact ⟨by rw [HUN2.out]; rfl, ((HBW.out.setCell (Nat.le_refl _) _).setCell (Nat.le_refl _) _).setCell (Nat.le_refl _) _⟩
        · have c10 := byte_ne c 10 (by decide) h10
          by_cases h92 : c = 92
          · have c92 := byte_eq c 92 (by decide) h92
            rw [h92] at HUN
            clear h34 h10 h92
            rcases list_cases u with e | ⟨d, v, e⟩
            · have e0 := bs_nil e
              have HUN2 : Hid (PF.unq r = none) := Lib.hid (by rw [HUN.out, e]; rfl)
              clear e
              obtain ⟨f0, f1, f2, g0, g1, g2, hk, hbw⟩ := resFacts HB.out
              have HBW := Lib.hid hbw
              have HK := Lib.hid hk
              clear hbw hk
              go_wp2_with fail
              refine bodyPost_ret (results53 (F := Tryz.f56) rfl rfl HK.out) rfl ?_
              exact ⟨by rw [HUN2.out]; rfl, ((HBW.out.setCell (Nat.le_refl _) _).setCell (Nat.le_refl _) _).setCell (Nat.le_refl _) _⟩
            · obtain ⟨hp2, hg2, hem2, h0i2, h1i2, htl2⟩ := bs_head e
              rw [e] at HUN
              have hul : u.length = v.length + 1 := by rw [e]; rfl
              clear e
              have M := Lib.hid (fun w => idxE d w)
              by_cases d34 : d = 34
              · rw [if_pos d34] at M
                clear c34
                have HUN3 : Hid (PF.unq r = ((PF.unq v).map (34 :: ·)).map (l ++ ·)) := Lib.hid (by rw [HUN.out, unq_esc, if_pos (.inl d34), d34])
                clear d34
                go_wp2_with fail
                refine (M.out _).mono ?_
                rintro e w1 ⟨rfl, rfl⟩
                go_wp2_with fail
                refine (writeByte (w.heap.size + 1) (w.heap.size + 1) _ (34) wr HD.out (by rw [byteCells_len]; omega) hsz).mono ?_
                rintro e w1 ⟨rfl, hd1, hb1⟩
                have HD1 := Lib.hid hd1
                have HB1 := Lib.hid hb1
                clear hd1 hb1
                go_wp2_with fail
                go_roundw
                case rel => exact ⟨v, l ++ [34], rfl, by rw [HUN3.out, map_app], by simp; omega, .inr (by rw [byteCells_app]; exact HD1.out), HB.out.trans HB1.out⟩
                case measure => simp [sizeOfV, bs_size]; omega
              · by_cases d92 : d = 92
                · rw [if_neg d34, if_pos d92] at M
                  have HUN3 : Hid (PF.unq r = ((PF.unq v).map (92 :: ·)).map (l ++ ·)) := Lib.hid (by rw [HUN.out, unq_esc, if_pos (.inr d92), d92])
                  clear d34 d92
                  go_wp2_with fail
                  refine (M.out _).mono ?_
                  rintro e w1 ⟨rfl, rfl⟩
                  go_wp2_with fail
                  refine (writeByte (w.heap.size + 1) (w.heap.size + 1) _ (92) wr HD.out (by rw [byteCells_len]; omega) hsz).mono ?_
                  rintro e w1 ⟨rfl, hd1, hb1⟩
                  have HD1 := Lib.hid hd1
                  have HB1 := Lib.hid hb1
                  clear hd1 hb1
                  go_wp2_with fail
                  go_roundw
                  case rel => exact ⟨v, l ++ [92], rfl, by rw [HUN3.out, map_app], by simp; omega, .inr (by rw [byteCells_app]; exact HD1.out), HB.out.trans HB1.out⟩
                  case measure => simp [sizeOfV, bs_size]; omega
                · by_cases d110 : d = 110
                  · rw [if_neg d34, if_neg d92, if_pos d110] at M
                    have HUN3 : Hid (PF.unq r = ((PF.unq v).map (10 :: ·)).map (l ++ ·)) := Lib.hid (by rw [HUN.out, unq_esc, if_neg (by simp [d34, d92]), if_pos d110])
                    clear d34 d92 d110
                    go_wp2_with fail
                    refine (M.out _).mono ?_
                    rintro e w1 ⟨rfl, rfl⟩
                    go_wp2_with fail
                    refine (writeByte (w.heap.size + 1) (w.heap.size + 1) _ (10) wr HD.out (by rw [byteCells_len]; omega) hsz).mono ?_
                    rintro e w1 ⟨rfl, hd1, hb1⟩
                    have HD1 := Lib.hid hd1
                    have HB1 := Lib.hid hb1
                    clear hd1 hb1
                    go_wp2_with fail
                    go_roundw
                    case rel => exact ⟨v, l ++ [10], rfl, by rw [HUN3.out, map_app], by simp; omega, .inr (by rw [byteCells_app]; exact HD1.out), HB.out.trans HB1.out⟩
                    case measure => simp [sizeOfV, bs_size]; omega
                  · rw [if_neg d34, if_neg d92, if_neg d110] at M
                    have HUN3 : Hid (PF.unq r = none) := Lib.hid (by rw [HUN.out, unq_esc, if_neg (by simp [d34, d92]), if_neg d110]; rfl)
                    clear d34 d92 d110
                    go_wp2_with fail
                    refine (M.out _).mono ?_
                    rintro e w1 ⟨rfl, rfl⟩
                    obtain ⟨f0, f1, f2, g0, g1, g2, hk, hbw⟩ := resFacts HB.out
                    have HBW := Lib.hid hbw
                    have HK := Lib.hid hk
                    clear hbw hk
                    go_wp2_with fail
                    refine bodyPost_ret (results53 (F := Tryz.f56) rfl rfl HK.out) rfl ?_
                    exact ⟨by rw [HUN3.out]; rfl, ((HBW.out.setCell (Nat.le_refl _) _).setCell (Nat.le_refl _) _).setCell (Nat.le_refl _) _⟩
          · have c92 := byte_ne c 92 (by decide) h92
            have HUN3 : Hid (PF.unq r = ((PF.unq u).map (c :: ·)).map (l ++ ·)) := Lib.hid (by rw [HUN.out, unq_plain c u h34 h10 h92])
            clear h34 h10 h92
            go_wp2_with fail
            refine (writeByte (w.heap.size + 1) (w.heap.size + 1) _ ((c.toNat : Int)) wr HD.out (by rw [byteCells_len]; omega) hsz).mono ?_
            rintro e w1 ⟨rfl, hd1, hb1⟩
            have HD1 := Lib.hid hd1
            have HB1 := Lib.hid hb1
            clear hd1 hb1
            go_wp2_with fail
            go_roundw
            case rel => exact ⟨u, l ++ [c], rfl, by rw [HUN3.out, map_app], by simp; omega, .inr (by rw [byteCells_app]; exact HD1.out), HB.out.trans HB1.out⟩
            case measure => simp [sizeOfV, bs_size]; omega

end Go.Proofs.YtagiddbfhlokcaaGreatDoor
/- The other package's digits and isFloat: they answer as the plain texts do. Condition: the text's length. -/
namespace Go.Proofs.YtagiddbfhlokcaaGreatDoor
open Go.RowKit
set_option maxRecDepth 100000
theorem at_cons {l : List UInt8} {k : Nat} {c : UInt8} {t : List UInt8} (e : l.drop k = c :: t) : ∃ h : k < (bs l).size, (bs l)[k] = c ∧ (k : Int) < ((bs l).size : Int) ∧ l.drop (k + 1) = t ∧ k + 1 ≤ l.length := by
  have hk : k < l.length := by
    rcases Nat.lt_or_ge k l.length with h | h
    · exact h
    · rw [List.drop_of_length_le h] at e; cases e
  have h : k < (bs l).size := by rw [bs_size]; exact hk
  rw [List.drop_eq_getElem_cons hk] at e
  injection e with e1 e2
  exact ⟨h, by rw [bs_get]; exact e1, by omega, e2, hk⟩
theorem at_nil {l : List UInt8} {k : Nat} (hk : k ≤ l.length) (e : l.drop k = []) : ¬((k : Int) < ((bs l).size : Int)) ∧ k = (bs l).size := by
  have : (l.drop k).length = 0 := by rw [e]; rfl
  simp at this
  have h2 : (bs l).size = l.length := bs_size l
  omega
theorem isDig_true {c : UInt8} (h : PF.isDig c = true) : (48 : Int) ≤ (c.toNat : Int) ∧ (c.toNat : Int) ≤ 57 := by
  simp only [PF.isDig, Bool.and_eq_true, decide_eq_true_eq] at h
  omega
theorem isDig_false {c : UInt8} (h : PF.isDig c = false) : ¬(48 : Int) ≤ (c.toNat : Int) ∨ ((48 : Int) ≤ (c.toNat : Int) ∧ ¬(c.toNat : Int) ≤ 57) := by
  simp only [PF.isDig, Bool.and_eq_false_iff, decide_eq_false_iff_not] at h
  omega
def tw (l : List UInt8) (k : Nat) : Nat := ((l.drop k).takeWhile PF.isDig).length
theorem tw_yes {l : List UInt8} {k : Nat} {c : UInt8} {t : List UInt8} (e : l.drop k = c :: t) (h : PF.isDig c = true) : tw l k = tw l (k + 1) + 1 := by
  have h2 := (at_cons e).choose_spec.2.2.1
  unfold tw
  rw [h2, e, List.takeWhile_cons, if_pos h]
  rfl
theorem tw_no {l : List UInt8} {k : Nat} {c : UInt8} {t : List UInt8} (e : l.drop k = c :: t) (h : PF.isDig c = false) : tw l k = 0 := by
  unfold tw
  rw [e, List.takeWhile_cons, if_neg (by rw [h]; decide)]
  rfl
theorem tw_end {l : List UInt8} {k : Nat} (e : l.drop k = []) : tw l k = 0 := by unfold tw; rw [e]; rfl
theorem digits79 (l : List UInt8) (i : Nat) (hl : l.length ≤ 281474976710656) (hi : i ≤ l.length) (w : World) :
    Calls Tryz.prog 79 #[.string (bs l), .int .i64 (i : Int)] w fun e w' => e = .returned (.int .i64 ((i + tw l i : Nat) : Int)) ∧ w = w' := by
  obtain ⟨m, hm⟩ : ∃ m, i + tw l i = m := ⟨_, rfl⟩
  rw [hm]
  go_enter Tryz.func79, Tryz.ntmps79
  go_wp2
  go_loopw [1] (fun v wr => ∃ k : Nat, v = .int .i64 (k : Int) ∧ k ≤ l.length ∧ k + tw l k = m ∧ w = wr) (fun v _ => match v with | .int _ k => l.length - k.toNat | _ => 0)
  case atStart => exact ⟨i, rfl, hi, hm, rfl⟩
  case round =>
    obtain ⟨k, rfl, hk, hkk, rfl⟩ := hrel
    have HKK := Lib.hid hkk
    clear hkk
    rcases list_cases (l.drop k) with e | ⟨c, t, e⟩
    · have h1 := (at_nil hk e).1
      have h0 : Hid (k = m) := Lib.hid (by rw [← HKK.out, tw_end e]; rfl)
      clear e
      go_wp2_with fail
      go_ret
      exact ⟨by rw [← h0.out]; rfl, rfl⟩
    · obtain ⟨hlt, hg, hz, hd, hk1⟩ := at_cons e
      cases hc : PF.isDig c with
      | true =>
        obtain ⟨d1, d2⟩ := isDig_true hc
        have HK2 : Hid (k + 1 + tw l (k + 1) = m) := Lib.hid (by rw [← HKK.out, tw_yes e hc]; omega)
        clear e hc hd
        go_wp2_with fail
        go_roundw
        case rel => exact ⟨k + 1, rfl, hk1, HK2.out, trivial⟩
        case measure => simp; omega
      | false =>
        have h0 : Hid (k = m) := Lib.hid (by rw [← HKK.out, tw_no e hc]; rfl)
        rcases isDig_false hc with d1 | ⟨d1, d2⟩
        · clear e hc hd
          go_wp2_with fail
          go_ret
          exact ⟨by rw [← h0.out]; rfl, rfl⟩
        · clear e hc hd
          go_wp2_with fail
          go_ret
          exact ⟨by rw [← h0.out]; rfl, rfl⟩
theorem drop_tw (l : List UInt8) (k : Nat) : l.drop (k + tw l k) = (l.drop k).dropWhile PF.isDig := by
  unfold tw
  rw [← List.drop_drop]
  have key : ∀ u : List UInt8, u.drop (u.takeWhile PF.isDig).length = u.dropWhile PF.isDig := by
    intro u
    have h := List.takeWhile_append_dropWhile (p := PF.isDig) (l := u)
    calc u.drop (u.takeWhile PF.isDig).length = (u.takeWhile PF.isDig ++ u.dropWhile PF.isDig).drop (u.takeWhile PF.isDig).length := by rw [h]
      _ = _ := List.drop_left' rfl
  exact key _
theorem tw_le (l : List UInt8) (k : Nat) (hk : k ≤ l.length) : k + tw l k ≤ l.length := by
  unfold tw
  have := take_drop_len (l.drop k)
  simp at this
  omega
theorem tw_empty (l : List UInt8) (k : Nat) : ((l.drop k).takeWhile PF.isDig).isEmpty = decide (tw l k = 0) := by
  unfold tw
  cases (l.drop k).takeWhile PF.isDig <;> simp
/-- Where the sign ends. -/
def p0 (l : List UInt8) : Nat := if PF.isNeg l then 1 else 0
theorem p0_drop (l : List UInt8) : l.drop (p0 l) = PF.body l ∧ p0 l ≤ l.length := by
  by_cases hc : ∃ r, l = 45 :: r
  · obtain ⟨r, rfl⟩ := hc
    unfold p0
    rw [(PF.body_neg r).1, (PF.body_neg r).2, if_pos rfl]
    exact ⟨rfl, by simp⟩
  · have hb := PF.body_pos (l := l) (fun r e => hc ⟨r, e⟩)
    unfold p0
    rw [hb.1, hb.2, if_neg (by decide)]
    exact ⟨rfl, by omega⟩
theorem isNeg_head (l : List UInt8) : PF.isNeg l = headIs 45 l := by
  by_cases hc : ∃ r, l = 45 :: r
  · obtain ⟨r, rfl⟩ := hc; rfl
  · rw [(PF.body_pos (l := l) (fun r e => hc ⟨r, e⟩)).2, head_no (fun t e => hc ⟨t, e⟩)]
theorem head_yes {c : UInt8} {r : List UInt8} (h : headIs c r = true) : ∃ t, r = c :: t := by
  cases r with
  | nil => cases h
  | cons a t => exact ⟨t, by rw [of_decide_eq_true h]⟩
theorem tailM_no {r : List UInt8} (h : headIs 46 r = false) : PF.tailM r = PF.tailE r := by
  unfold PF.tailM
  split
  · cases h
  · rfl
theorem tailE_no {r : List UInt8} (h : isE r = false) : PF.tailE r = r.isEmpty := by
  cases r with
  | nil => rfl
  | cons c t =>
    unfold PF.tailE
    have : (decide (c = 101) || decide (c = 69)) = false := h
    simp only [this, Bool.false_and]
    rfl
theorem tailE_yes {r : List UInt8} (h : isE r = true) : ∃ c t, r = c :: t ∧ PF.tailE r = PF.okX t := by
  cases r with
  | nil => cases h
  | cons c t =>
    refine ⟨c, t, rfl, ?_⟩
    unfold PF.tailE
    have : (decide (c = 101) || decide (c = 69)) = true := h
    simp only [this, Bool.true_and]
/-- Behind the mantissa / behind all. -/
def AtM (l : List UInt8) (R : Bool) (w : World) (v : Value) (w' : World) : Prop := ∃ p : Nat, v = .int .i64 (p : Int) ∧ p ≤ l.length ∧ PF.tailE (l.drop p) = R ∧ w = w'
def AtS (l : List UInt8) (R : Bool) (w : World) (v : Value) (w' : World) : Prop := ∃ p : Nat, v = .int .i64 (p : Int) ∧ p ≤ l.length ∧ PF.okD (l.drop p) = R ∧ w = w'
def AtE (l : List UInt8) (R : Bool) (w : World) (v : Value) (w' : World) : Prop := ∃ p : Nat, v = .int .i64 (p : Int) ∧ p ≤ l.length ∧ (l.drop p).isEmpty = R ∧ w = w'
set_option maxHeartbeats 8000000 in
theorem isFloat53 (l : List UInt8) (hl : l.length ≤ 281474976710656) (w : World) :
    Calls Tryz.prog 53 #[.string (bs l)] w fun e w' => e = .returned (.bool (PF.decB l)) ∧ w = w' := by
  obtain ⟨R, hR⟩ : ∃ R, PF.decB l = R := ⟨_, rfl⟩
  have hdec : (!((PF.body l).takeWhile PF.isDig).isEmpty && PF.tailM ((PF.body l).dropWhile PF.isDig) && decide (l.length ≤ 400)) = R := by
    rw [← hR]
    unfold PF.decB
    rw [PF.okM_parts]
  rw [hR]
  obtain ⟨hp0, hp0l⟩ := p0_drop l
  rw [← hp0, ← drop_tw, tw_empty] at hdec
  have MD := Lib.hid (fun i hi => digits79 l i hl hi)
  have HNEG := Lib.hid (isNeg_head l)
  obtain ⟨q0, hq0⟩ : ∃ q, p0 l = q := ⟨_, rfl⟩
  have HQ0 : Hid ((if PF.isNeg l then 1 else 0) = q0) := Lib.hid hq0
  rw [hq0] at hdec hp0l
  have HDEC := Lib.hid hdec
  have HSZ := Lib.hid (bs_size l)
  clear hdec hR hp0 hq0
  go_enter Tryz.func53, Tryz.ntmps53
  obtain ⟨bn, hbn⟩ : ∃ b, PF.isNeg l = b := ⟨_, rfl⟩
  rw [hbn] at HQ0 HNEG
  clear hbn
  go_upto_region 2 with (fail)
  go_cut [14] from 5 to 14 (fun v w' => v = .bool bn ∧ w = w')
  case first =>
    rcases list_cases l with e | ⟨c, t, e⟩
    · have h0 : (bs l).size = 0 := by rw [bs_size, e]; rfl
      have h0z : ¬((0 : Int) < ((bs l).size : Int)) := by omega
      have hq : bn = false := by rw [HNEG.out, e]; rfl
      subst hq
      clear e h0
      go_wp2_with fail
      go_meet
      case rel => exact ⟨rfl, rfl⟩
    · obtain ⟨hlt, hg, hem, h0i, h1i, htl⟩ := bs_head e
      by_cases h45 : c = 45
      · have c45 : ((c.toNat : Int) == 45) = true := byte_eq c 45 (by decide) h45
        have hq : bn = true := by rw [HNEG.out, e, h45]; rfl
        subst hq
        clear e htl h45
        go_wp2_with fail
        go_meet
        case rel => exact ⟨rfl, rfl⟩
      · have c45 : ((c.toNat : Int) == 45) = false := byte_ne c 45 (by decide) h45
        have hq : bn = false := by rw [HNEG.out, e]; simp [headIs, h45]
        subst hq
        clear e htl h45
        go_wp2_with fail
        go_meet
        case rel => exact ⟨rfl, rfl⟩
  case rest =>
   obtain ⟨rfl, rfl⟩ := hcut
   go_upto_if 14 with (fail)
   go_cut [3] from 15 to 16 (fun v w' => v = .int .i64 (q0 : Int) ∧ w = w')
   case first =>
    cases bn with
    | true =>
      have hq : q0 = 1 := HQ0.out.symm
      subst hq
      go_wp2_with fail
      go_meet
      case rel => exact ⟨rfl, rfl⟩
    | false =>
      have hq : q0 = 0 := HQ0.out.symm
      subst hq
      go_wp2_with fail
      go_meet
      case rel => exact ⟨rfl, rfl⟩
   case rest =>
    obtain ⟨rfl, rfl⟩ := hcut
    have htl := tw_le l q0 hp0l
    obtain ⟨n, hn⟩ : ∃ n, tw l q0 = n := ⟨_, rfl⟩
    have M := Lib.hid (MD.out q0 hp0l w)
    rw [hn] at htl HDEC M
    obtain ⟨q, hq⟩ : ∃ q, q0 + n = q := ⟨_, rfl⟩
    rw [hq] at htl HDEC M
    go_wp2_with fail
    refine M.out.mono ?_
    rintro e w' ⟨rfl, rfl⟩
    by_cases hq1 : q = q0
    · have hqz : ((q : Int) == (q0 : Int)) = true := by simp; omega
      obtain rfl : false = R := by rw [← HDEC.out]; rw [show n = 0 by omega]; rfl
      clear hq1 hq
      go_wp2_with fail
      go_ret
      exact ⟨rfl, rfl⟩
    · have hqz : ((q : Int) == (q0 : Int)) = false := by rw [beq_eq_false_iff_ne]; omega
      by_cases h400 : 400 < l.length
      · have h400z : (400 : Int) < ((bs l).size : Int) := by have := HSZ.out; omega
        obtain rfl : false = R := by rw [← HDEC.out]; simp; omega
        clear hq1 hq
        go_wp2_with fail
        go_ret
        exact ⟨rfl, rfl⟩
      · have h400z : ¬((400 : Int) < ((bs l).size : Int)) := by have := HSZ.out; omega
        have hm : PF.tailM (l.drop q) = R := by
          rw [← HDEC.out]
          have : ¬(n = 0) := by omega
          have h4 : l.length ≤ 400 := by omega
          simp [this, h4]
        have HM := Lib.hid hm
        clear HDEC hm hq1 hq hn
        obtain ⟨b46, hb46⟩ : ∃ b, headIs 46 (l.drop q) = b := ⟨_, rfl⟩
        have H46 := Lib.hid hb46
        clear hb46
        go_upto_region 8 with (fail)
        go_cut [38] from 29 to 38 (fun v w' => v = .bool b46 ∧ w = w')
        case first =>
          have h46 := H46.out
          rcases list_cases (l.drop q) with e | ⟨c, t, e⟩
          · have h1 := (at_nil htl e).1
            rw [e] at h46
            obtain rfl : false = b46 := h46
            clear e
            go_wp2_with fail
            go_meet
            case rel => exact ⟨rfl, rfl⟩
          · obtain ⟨hlt, hg, hz, hd, hk1⟩ := at_cons e
            rw [e] at h46
            clear e hd
            by_cases hc : c = 46
            · have c46 : ((c.toNat : Int) == 46) = true := byte_eq c 46 (by decide) hc
              obtain rfl : true = b46 := by rw [← h46, hc]; rfl
              clear h46 hc
              go_wp2_with fail
              go_meet
              case rel => exact ⟨rfl, rfl⟩
            · have c46 : ((c.toNat : Int) == 46) = false := byte_ne c 46 (by decide) hc
              obtain rfl : false = b46 := by rw [← h46]; simp [headIs, hc]
              clear h46 hc
              go_wp2_with fail
              go_meet
              case rel => exact ⟨rfl, rfl⟩
        case rest =>
         obtain ⟨rfl, rfl⟩ := hcut
         go_upto_if 38 with (fail)
         go_cut [3, 4] from 39 to 47 (fun v z w' => (∃ y : Int, z = .int .i64 y) ∧ AtM l R w v w')
         case first =>
          cases b46 with
          | true =>
            obtain ⟨t, e⟩ := head_yes H46.out
            obtain ⟨hlt, hg, hz, hd, hk1⟩ := at_cons e
            have hm := HM.out
            rw [e] at hm
            have hm2 : (!(t.takeWhile PF.isDig).isEmpty && PF.tailE (t.dropWhile PF.isDig)) = R := hm
            rw [← hd, ← drop_tw, tw_empty] at hm2
            have htl2 := tw_le l (q + 1) hk1
            have M := Lib.hid (MD.out (q + 1) hk1 w)
            obtain ⟨n2, hn2⟩ : ∃ n, tw l (q + 1) = n := ⟨_, rfl⟩
            rw [hn2] at hm2 htl2 M
            obtain ⟨q2, hq2⟩ : ∃ q2, q + 1 + n2 = q2 := ⟨_, rfl⟩
            rw [hq2] at hm2 htl2 M
            have HM2 := Lib.hid hm2
            have HQ2 := Lib.hid hq2
            clear hm hm2 hn2 e hd hq2
            simp only [Int.natCast_add, Int.cast_ofNat_Int] at M
            go_wp2_with fail
            refine M.out.mono ?_
            rintro e w' ⟨rfl, rfl⟩
            have hq2 := HQ2.out
            by_cases hnz : n2 = 0
            · have hqz : ((q2 : Int) == (q : Int) + 1) = true := by simp; omega
              obtain rfl : false = R := by rw [← HM2.out, hnz]; rfl
              clear hnz hq2
              go_wp2_with fail
              go_ret
              exact ⟨rfl, rfl⟩
            · have hqz : ((q2 : Int) == (q : Int) + 1) = false := by rw [beq_eq_false_iff_ne]; omega
              have HM3 : Hid (PF.tailE (l.drop q2) = R) := Lib.hid (by rw [← HM2.out]; simp [hnz])
              clear hnz hq2
              go_wp2_with fail
              go_meet
              case rel => exact ⟨⟨_, rfl⟩, q2, rfl, htl2, HM3.out, rfl⟩
          | false =>
            have HM2 : Hid (PF.tailE (l.drop q) = R) := Lib.hid (by rw [← HM.out, tailM_no H46.out])
            go_wp2_with fail
            go_meet
            case rel => exact ⟨⟨_, rfl⟩, q, rfl, htl, HM2.out, rfl⟩
         case rest =>
          clear HM H46
          obtain ⟨⟨y, rfl⟩, p, rfl, hp, hr, rfl⟩ := hcut
          have HR := Lib.hid hr
          obtain ⟨bE, hbE⟩ : ∃ b, isE (l.drop p) = b := ⟨_, rfl⟩
          have HBE := Lib.hid hbE
          clear hr hbE
          go_upto_region 13 with (fail)
          go_cut [63] from 48 to 63 (fun v w' => v = .bool bE ∧ w = w')
          case first =>
            have hbe := HBE.out
            rcases list_cases (l.drop p) with e | ⟨c, t, e⟩
            · have h1 := (at_nil hp e).1
              rw [e] at hbe
              obtain rfl : false = bE := hbe
              clear e
              go_wp2_with fail
              go_meet
              case rel => exact ⟨rfl, rfl⟩
            · obtain ⟨hlt, hg, hz, hd, hk1⟩ := at_cons e
              rw [e] at hbe
              clear e hd
              by_cases hc : c = 101
              · have c1 : ((c.toNat : Int) == 101) = true := byte_eq c 101 (by decide) hc
                obtain rfl : true = bE := by rw [← hbe, hc]; rfl
                clear hbe hc
                go_wp2_with fail
                go_meet
                case rel => exact ⟨rfl, rfl⟩
              · have c1 : ((c.toNat : Int) == 101) = false := byte_ne c 101 (by decide) hc
                by_cases hc2 : c = 69
                · have c2 : ((c.toNat : Int) == 69) = true := byte_eq c 69 (by decide) hc2
                  obtain rfl : true = bE := by rw [← hbe, hc2]; rfl
                  clear hbe hc hc2
                  go_wp2_with fail
                  go_meet
                  case rel => exact ⟨rfl, rfl⟩
                · have c2 : ((c.toNat : Int) == 69) = false := byte_ne c 69 (by decide) hc2
                  obtain rfl : false = bE := by rw [← hbe]; simp [isE, hc, hc2]
                  clear hbe hc hc2
                  go_wp2_with fail
                  go_meet
                  case rel => exact ⟨rfl, rfl⟩
          case rest =>
           obtain ⟨rfl, rfl⟩ := hcut
           go_upto_if 63 with (fail)
           go_cut [3, 4] from 64 to 90 (fun v z w' => (∃ y : Int, z = .int .i64 y) ∧ AtE l R w v w')
           case first =>
            cases bE with
            | false =>
              have HE2 : Hid ((l.drop p).isEmpty = R) := Lib.hid (by rw [← HR.out, tailE_no HBE.out])
              go_wp2_with fail
              go_meet
              case rel => exact ⟨⟨_, rfl⟩, p, rfl, hp, HE2.out, rfl⟩
            | true =>
              obtain ⟨c, t, e, hte⟩ := tailE_yes HBE.out
              obtain ⟨hlt, hg, hz, hd, hk1⟩ := at_cons e
              rw [hte, ← hd] at HR
              obtain ⟨bS, hbS⟩ : ∃ b, isS (l.drop (p + 1)) = b := ⟨_, rfl⟩
              have HBS := Lib.hid hbS
              clear e hte hd hbS
              obtain ⟨p1, hp1⟩ : ∃ p1, p + 1 = p1 := ⟨_, rfl⟩
              have hp1z : (p : Int) + 1 = (p1 : Int) := by omega
              rw [hp1] at HR HBS hk1
              have hp1s : (p1 : Int) ≤ 281474976710656 := by omega
              clear hp1
              go_upto_region 15 with (fail)
              go_cut [81] from 66 to 81 (fun v w' => v = .bool bS ∧ w = w')
              case first =>
                have hbs := HBS.out
                rcases list_cases (l.drop p1) with e | ⟨c, t, e⟩
                · have h1 := (at_nil hk1 e).1
                  rw [e] at hbs
                  obtain rfl : false = bS := hbs
                  clear e
                  go_wp2_with fail
                  go_meet
                  case rel => exact ⟨rfl, rfl⟩
                · obtain ⟨hlt, hg, hz, hd, hk1⟩ := at_cons e
                  rw [e] at hbs
                  clear e hd
                  by_cases hc : c = 43
                  · have c1 : ((c.toNat : Int) == 43) = true := byte_eq c 43 (by decide) hc
                    obtain rfl : true = bS := by rw [← hbs, hc]; rfl
                    clear hbs hc
                    go_wp2_with fail
                    go_meet
                    case rel => exact ⟨rfl, rfl⟩
                  · have c1 : ((c.toNat : Int) == 43) = false := byte_ne c 43 (by decide) hc
                    by_cases hc2 : c = 45
                    · have c2 : ((c.toNat : Int) == 45) = true := byte_eq c 45 (by decide) hc2
                      obtain rfl : true = bS := by rw [← hbs, hc2]; rfl
                      clear hbs hc hc2
                      go_wp2_with fail
                      go_meet
                      case rel => exact ⟨rfl, rfl⟩
                    · have c2 : ((c.toNat : Int) == 45) = false := byte_ne c 45 (by decide) hc2
                      obtain rfl : false = bS := by rw [← hbs]; simp [isS, hc, hc2]
                      clear hbs hc hc2
                      go_wp2_with fail
                      go_meet
                      case rel => exact ⟨rfl, rfl⟩
              case rest =>
                obtain ⟨rfl, rfl⟩ := hcut
                go_upto_if 81 with (fail)
                go_cut [3] from 82 to 83 (fun v w' => AtS l R w v w')
                case first =>
                  cases bS with
                  | false =>
                    have HS2 : Hid (PF.okD (l.drop p1) = R) := Lib.hid (by rw [← HR.out, okX_strip, strip_no HBS.out])
                    go_wp2_with fail
                    go_meet
                    case rel => exact ⟨p1, rfl, hk1, HS2.out, rfl⟩
                  | true =>
                    obtain ⟨d, u, e, hst⟩ := strip_yes HBS.out
                    obtain ⟨hlt, hg, hz, hd, hk1⟩ := at_cons e
                    have HS2 : Hid (PF.okD (l.drop (p1 + 1)) = R) := Lib.hid (by rw [← HR.out, okX_strip, hst, hd])
                    clear e hd hst
                    go_wp2_with fail
                    go_meet
                    case rel => exact ⟨p1 + 1, rfl, hk1, HS2.out, rfl⟩
                case rest =>
                  obtain ⟨p2, rfl, hp2, hok, rfl⟩ := hcut
                  rw [okD_parts, ← drop_tw, tw_empty] at hok
                  have htl2 := tw_le l p2 hp2
                  have M := Lib.hid (MD.out p2 hp2 w)
                  obtain ⟨n2, hn2⟩ : ∃ n, tw l p2 = n := ⟨_, rfl⟩
                  rw [hn2] at hok htl2 M
                  obtain ⟨q2, hq2⟩ : ∃ q2, p2 + n2 = q2 := ⟨_, rfl⟩
                  rw [hq2] at hok htl2 M
                  have HOK := Lib.hid hok
                  clear hok hn2
                  go_wp2_with fail
                  refine M.out.mono ?_
                  rintro e w' ⟨rfl, rfl⟩
                  by_cases hnz : n2 = 0
                  · have hqz : ((q2 : Int) == (p2 : Int)) = true := by simp; omega
                    obtain rfl : false = R := by rw [← HOK.out, hnz]; rfl
                    clear hnz hq2
                    go_wp2_with fail
                    go_ret
                    exact ⟨rfl, rfl⟩
                  · have hqz : ((q2 : Int) == (p2 : Int)) = false := by rw [beq_eq_false_iff_ne]; omega
                    have HM3 : Hid ((l.drop q2).isEmpty = R) := Lib.hid (by rw [← HOK.out]; simp [hnz])
                    clear hnz hq2
                    go_wp2_with fail
                    go_meet
                    case rel => exact ⟨⟨_, rfl⟩, q2, rfl, htl2, HM3.out, rfl⟩
           case rest =>
            obtain ⟨⟨y, rfl⟩, p, rfl, hp, hr, rfl⟩ := hcut
            rcases list_cases (l.drop p) with e | ⟨c, t, e⟩
            · have h2 := (at_nil hp e).2
              obtain rfl : true = R := by rw [← hr, e]; rfl
              have hz : ((p : Int) == ((bs l).size : Int)) = true := by simp; omega
              clear e hr h2
              go_wp2_with fail
              go_ret
              exact ⟨rfl, rfl⟩
            · obtain ⟨hlt, hg, hz, hd, hk1⟩ := at_cons e
              obtain rfl : false = R := by rw [← hr, e]; rfl
              have hz : ((p : Int) == ((bs l).size : Int)) = false := by rw [beq_eq_false_iff_ne]; omega
              clear e hd hr
              go_wp2_with fail
              go_ret
              exact ⟨rfl, rfl⟩
end Go.Proofs.YtagiddbfhlokcaaGreatDoor
