/- Several texts of this proof, laid together. Conditions: as each says. -/
import Derived.Test.YtagiddbfhlokcaaGreatDoorRows
import Derived.Test.YtagiddbfhlokcaaGreatDoorTAA
import Derived.Test.YtagiddbfhlokcaaGreatDoorTAJ
import Derived.WalkKit
import Derived.ProofKit
import Derived.OpenShut
import Derived.Below
import Derived.WalkLawsBesides
import Derived.WalkSpells
import Derived.BigQuiet
import Derived.Lib.Hide
import Derived.Deep.AppendLies
import Derived.Lib.SmallJoins
import Derived.Deep.RegionHeld
import Derived.OwnWalk
import Derived.Lib.Bytes
import Derived.Deep.RegionLaw
import Derived.Test.YtagiddbfhlokcaaGreatDoorTAK
import Derived.Test.YtagiddbfhlokcaaGreatDoorTAP
import Derived.Lib.ItoaMem
import Derived.Maps.AppendAt
import Derived.Deep.CutRange
/- FormatFloat's arithmetic at 1.5: the scaling. Conditions: two cells of the table of powers. -/
namespace Go.Proofs.YtagiddbfhlokcaaGreatDoor.One
open Go.RowKit
set_option maxRecDepth 100000
theorem log2 (w : World) : Calls Tryz.prog 240 #[.int .i64 16] w fun e w' => e = .returned (.int .i64 53) ∧ w' = w := by
  go_enter Tryz.func240, Tryz.ntmps240
  go_wp2
  go_ret
  exact ⟨rfl, rfl⟩
def Pow (w : World) : Prop := w.cell? ⟨15, 728, none⟩ = some (.int .u64 10240000000000000000) ∧ w.cell? ⟨15, 729, none⟩ = some (.int .u64 0)
def Pre (w : World) (b : Nat) (x y z : Value) : Prop := w.heap[b]? = some (.cells #[x, y, z] 306 (0, 0))
theorem Pre.c0 {w : World} {b : Nat} {x y z : Value} (h : Pre w b x y z) : w.cell? ⟨b, 0, none⟩ = some x := by rw [Lib.cell_of_heap h]; rfl
theorem Pre.c1 {w : World} {b : Nat} {x y z : Value} (h : Pre w b x y z) : w.cell? ⟨b, 1, none⟩ = some y := by rw [Lib.cell_of_heap h]; rfl
theorem Pre.c2 {w : World} {b : Nat} {x y z : Value} (h : Pre w b x y z) : w.cell? ⟨b, 2, none⟩ = some z := by rw [Lib.cell_of_heap h]; rfl
end Go.Proofs.YtagiddbfhlokcaaGreatDoor.One
/- FormatFloat's shortest digits at 1.5. Conditions: two cells of the table of powers. -/
namespace Go.Proofs.YtagiddbfhlokcaaGreatDoor.One
open Go.RowKit
set_option maxRecDepth 100000
theorem Pre.set0 {w : World} {b : Nat} {x y z : Value} (h : Pre w b x y z) (v : Value) : Pre (w.setCell ⟨b, 0, none⟩ v) b v y z := Joins.block_setCell (i := 0) h v
theorem Pre.set1 {w : World} {b : Nat} {x y z : Value} (h : Pre w b x y z) (v : Value) : Pre (w.setCell ⟨b, 1, none⟩ v) b x v z := Joins.block_setCell (i := 1) h v
theorem Pre.set2 {w : World} {b : Nat} {x y z : Value} (h : Pre w b x y z) (v : Value) : Pre (w.setCell ⟨b, 2, none⟩ v) b x y v := Joins.block_setCell (i := 2) h v
theorem Pow.set {w : World} {b i : Nat} (h : Pow w) (hb : 15 < b) (v : Value) : Pow (w.setCell ⟨b, i, none⟩ v) :=
  ⟨by rw [World.cell?_setCell_far _ _ _ _ (by simp; omega)]; exact h.1, by rw [World.cell?_setCell_far _ _ _ _ (by simp; omega)]; exact h.2⟩
end Go.Proofs.YtagiddbfhlokcaaGreatDoor.One
/- setDigits at 1.5's digits. No condition but the row of 32 noughts. -/
namespace Go.Proofs.YtagiddbfhlokcaaGreatDoor.One
open Go.RowKit Go.Sort
set_option maxRecDepth 100000
def encB (b : UInt8) : Value := Value.int .u8 (b.toNat : Int)
theorem dgs : ∀ t : Fin 16, Lib.dg 1500000000000000 (15 - t.val) = (if t.val = 0 then 49 else if t.val = 1 then 53 else 48) := by decide +kernel
end Go.Proofs.YtagiddbfhlokcaaGreatDoor.One
/- fmtEFG at 1.5's digits. No condition. -/
namespace Go.Proofs.YtagiddbfhlokcaaGreatDoor.One
open Go.RowKit
set_option maxRecDepth 100000
theorem info5 : (Tryz.prog.info? 5).map (fun i => (i.zero, i.size, i.bytes)) = some (some (.int .u8 0), 1, 1) := by kernel_rfl
structure St (w0 : World) (g b : Nat) (l : List UInt8) (w : World) : Prop where
  own : w.ownsRow g 5 1 (.slice (some ⟨g, 0, none⟩) l.length 24) l.length (Lib.byteCells l)
  c0 : w.cell? ⟨b, 0, none⟩ = some (.int .u8 49)
  c1 : w.cell? ⟨b, 1, none⟩ = some (.int .u8 53)
  bel : Below g w0 w
  gb : g < b
  bw : b < w.heap.size
theorem byteCells_app (l m : List UInt8) : Lib.byteCells (l ++ m) = Lib.byteCells l ++ Lib.byteCells m := by simp [Lib.byteCells]
theorem St.app1 {w0 w w2 : World} {g b : Nat} {l : List UInt8} (h : St w0 g b l w) (m : List UInt8) (hown : w2.ownsRow g 5 1 (.slice (some ⟨g, 0, none⟩) (l.length + m.length) 24) (l.length + m.length) (Lib.byteCells l ++ Lib.byteCells m)) (hg : w.grownBy w2 (some g)) : St w0 g b (l ++ m) w2 := by
  have hbk : w2.heap[b]? = w.heap[b]? := hg.block b h.bw (fun e => by have := h.gb; cases e; omega)
  refine ⟨by rw [List.length_append, byteCells_app]; exact hown, ?_, ?_, ?_, h.gb, Nat.lt_of_lt_of_le h.bw hg.size⟩
  · rw [World.cell?_of_block hbk]; exact h.c0
  · rw [World.cell?_of_block hbk]; exact h.c1
  · exact h.bel.grown hg (by have := h.gb; have := h.bw; omega) (fun j hj => by cases hj; exact Nat.le_refl _)
theorem St.alloc {w0 w : World} {g b : Nat} {l : List UInt8} (h : St w0 g b l w) (o : Obj) : St w0 g b l (w.alloc o) := by
  have hb := (Below.refl w.heap.size w).alloc (Nat.le_refl _) o
  refine ⟨World.ownsRow.alloc h.own _, ?_, ?_, ?_, h.gb, Nat.lt_of_lt_of_le h.bw hb.size⟩
  · rw [hb.cell (p := ⟨b, 0, none⟩) h.bw]; exact h.c0
  · rw [hb.cell (p := ⟨b, 1, none⟩) h.bw]; exact h.c1
  · exact h.bel.alloc (by have := h.gb; have := h.bw; omega) o
theorem St.app {w0 w w2 : World} {g b : Nat} {l : List UInt8} {o : Obj} (h : St w0 g b l w) (m : List UInt8) (hown : w2.ownsRow g 5 1 (.slice (some ⟨g, 0, none⟩) (l.length + m.length) 24) (l.length + m.length) (Lib.byteCells l ++ Lib.byteCells m)) (hg : (w.alloc o).grownBy w2 (some g)) : St w0 g b (l ++ m) w2 := (h.alloc o).app1 m hown hg
end Go.Proofs.YtagiddbfhlokcaaGreatDoor.One
/- fmtEFG at 1.5's digits, by 'f'. No condition. -/
namespace Go.Proofs.YtagiddbfhlokcaaGreatDoor.One
open Go.RowKit
set_option maxRecDepth 100000
end Go.Proofs.YtagiddbfhlokcaaGreatDoor.One
/- ftoa64 at 1.5. Conditions: the cells of the two tables of powers. -/
namespace Go.Proofs.YtagiddbfhlokcaaGreatDoor.One
open Go.RowKit Go.Sort
set_option maxRecDepth 100000
structure Env (w : World) : Prop where
  pow : Pow w
  tab : Lib.TabIs Tryz.prog w "internal/strconv.uint64pow10" .u64 Lib.pow10Tab
theorem Env.later {w w' : World} {B : Nat} (h : Env w) (hb : Below B w w') (h8 : 15 < B) : Env w' := by
  refine ⟨⟨(hb.cell (p := ⟨15, 728, none⟩) h8).trans h.pow.1, (hb.cell (p := ⟨15, 729, none⟩) h8).trans h.pow.2⟩, ?_⟩
  have ht := h.tab
  have hg : Tryz.prog.globalNamed "internal/strconv.uint64pow10" = some 1 := by kernel_rfl
  unfold Lib.TabIs World.var? at ht ⊢
  rw [hg] at ht ⊢
  simp only [Option.bind_some] at ht ⊢
  rw [hb.block 1 (by omega)]
  exact ht
theorem Env.drew {w : World} (h : Env w) : Env w.drew := ⟨⟨h.pow.1, h.pow.2⟩, h.tab⟩
def zeros32 : Array Value := #[.int .u8 0, .int .u8 0, .int .u8 0, .int .u8 0, .int .u8 0, .int .u8 0, .int .u8 0, .int .u8 0, .int .u8 0, .int .u8 0, .int .u8 0, .int .u8 0, .int .u8 0, .int .u8 0, .int .u8 0, .int .u8 0, .int .u8 0, .int .u8 0, .int .u8 0, .int .u8 0, .int .u8 0, .int .u8 0, .int .u8 0, .int .u8 0, .int .u8 0, .int .u8 0, .int .u8 0, .int .u8 0, .int .u8 0, .int .u8 0, .int .u8 0, .int .u8 0]
theorem own_later {w w' : World} {base e size n cap g : Nat} {xs : List Value} (h : w.ownsRow base e size (.slice (some ⟨g, 0, none⟩) n cap) n xs) (hb : Below w.heap.size w w') : w'.ownsRow base e size (.slice (some ⟨g, 0, none⟩) n cap) n xs :=
  h.kept (row := none) ⟨hb.os, hb.tape, hb.output, hb.size, fun k hk _ => hb.block k hk⟩ (.inr (by simp [Value.ownBlock]))
end Go.Proofs.YtagiddbfhlokcaaGreatDoor.One
/- Printing a float: setDigits at any number of digits. Condition: the row of 32 noughts. -/
namespace Go.Proofs.YtagiddbfhlokcaaGreatDoor.Ff
open Go.RowKit Go.Sort
set_option maxRecDepth 100000
theorem holds_z (w : World) (b n : Nat) (hn : n ≤ 32) (h : w.heap[b]? = some (.cells One.zeros32 281 (0, 0))) : Holds One.encB w b 0 (Array.replicate n 0) := by
  intro j hj
  have hj' : j < n := by simpa using hj
  refine ⟨?_, Lib.frozen_of_heap h _⟩
  rw [Lib.cell_of_heap h]
  have e : One.zeros32 = Array.replicate 32 (.int .u8 0) := rfl
  rw [e, Array.getElem?_replicate, if_pos (by omega)]
  simp [One.encB, hj']
/-- The row's cells hold these bytes. -/
def Cells (w : World) (b : Nat) (D : List UInt8) : Prop := ∀ t, t < D.length → w.cell? ⟨b, t, none⟩ = some (.int .u8 ((D.getD t 0).toNat : Int))
theorem fmt_112 (d : Nat) (h2 : d < 18446744073709551616) (hn : Lib.nDigits d ≤ 32) (w : World) (b : Nat) (h : w.heap[b]? = some (.cells One.zeros32 281 (0, 0))) :
    Calls Tryz.prog 112 #[.slice (some ⟨b, 0, none⟩) (Lib.nDigits d) 32, .int .u64 d] w fun e w' => e = .returned (.tuple #[]) ∧ Cells w' b (Lib.decDigits d) ∧ Below b w w' := by
  have hH := holds_z w b (Lib.nDigits d) hn h
  have h := Tryz.internal_strconv_formatBase10 b 0 32 d (Array.replicate (Lib.nDigits d) 0) w hH (by rw [Array.size_replicate]; exact Lib.lt_pow_nDigits d) h2 (by rw [Array.size_replicate]; omega)
  rw [Array.size_replicate] at h
  refine h.mono ?_
  rintro e w' ⟨rfl, n, v', dk, rfl, hf⟩
  refine ⟨rfl, fun t ht => ?_, ?_⟩
  · have h3 := Lib.row_is_numeral hf t ht
    rw [Lib.decDigits_length] at ht
    have h1 := cell?_putRow One.encB w b 0 _ dk hH (by rw [hf.size, Array.size_replicate]) t (by rw [hf.size]; exact ht)
    rw [Nat.zero_add] at h1
    have e3 : (Lib.decDigits d).getD t 0 = dk[t]! := by
      rw [List.getD_eq_getElem?_getD, List.getElem?_eq_getElem (by rw [Lib.decDigits_length]; exact ht), Option.getD_some, h3]
    rw [e3]
    exact h1
  · exact ⟨rfl, rfl, rfl, by simp [putRow, mapBlock, World.drewN], fun i hi => by simp only [putRow, mapBlock, World.drewN]; rw [Array.getElem?_modify, if_neg (by omega)]⟩
theorem trim_last {l : List UInt8} (h : PF.trim48 l ≠ []) : ∃ a c, PF.trim48 l = a ++ [c] ∧ c ≠ 48 := by
  unfold PF.trim48 at h ⊢
  cases hd : l.reverse.dropWhile (· == 48) with
  | nil => rw [hd] at h; exact absurd rfl h
  | cons c r =>
    refine ⟨r.reverse, c, by simp, ?_⟩
    have : ∀ (l : List UInt8) c r, l.dropWhile (· == 48) = c :: r → c ≠ 48 := by
      intro l
      induction l with
      | nil => intro c r h; cases h
      | cons x t ih =>
        intro c r h
        rw [List.dropWhile_cons] at h
        by_cases hx : (x == 48) = true
        · rw [if_pos hx] at h; exact ih c r h
        · rw [if_neg hx] at h
          injection h with h1 _
          rintro rfl
          subst h1
          exact hx rfl
    exact this _ _ _ hd
theorem trim_get (l : List UInt8) (t : Nat) : (t < (PF.trim48 l).length → l.getD t 0 = (PF.trim48 l).getD t 0) ∧ ((PF.trim48 l).length ≤ t → t < l.length → l.getD t 0 = 48) ∧ (PF.trim48 l).length ≤ l.length := by
  obtain ⟨z, hz⟩ := PF.trim48_spec l
  obtain ⟨D, hD⟩ : ∃ D, PF.trim48 l = D := ⟨_, rfl⟩
  rw [hD] at hz ⊢
  subst hz
  refine ⟨fun h => ?_, fun h h2 => ?_, by simp⟩
  · rw [List.getD_eq_getElem?_getD, List.getD_eq_getElem?_getD, List.getElem?_append_left h]
  · rw [List.length_append, List.length_replicate] at h2
    rw [List.getD_eq_getElem?_getD, List.getElem?_append_right h, List.getElem?_eq_getElem (by rw [List.length_replicate]; omega), Option.getD_some, List.getElem_replicate]
theorem set_224 (d : Nat) (h1 : 0 < d) (h2 : d < 18446744073709551616) (hn : Lib.nDigits d ≤ 32) (p : Int) (p1 : -1000 ≤ p) (p2 : p ≤ 1000) (w : World) (b : Nat) (h : w.heap[b]? = some (.cells One.zeros32 281 (0, 0))) :
    Calls Tryz.prog 224 #[.slice (some ⟨b, 0, none⟩) 32 32, .int .u64 d, .int .i64 p, .int .i64 (Lib.nDigits d : Int)] w fun e w' => e = .returned (.tuple #[.int .i64 ((Lib.nDigits d : Int) + p), .int .i64 ((PF.trim48 (Lib.decDigits d)).length : Int)]) ∧ Cells w' b (PF.trim48 (Lib.decDigits d)) ∧ Below b w w' := by
  have M := Lib.hid (fmt_112 d h2 hn w b h)
  obtain ⟨a, c, ha, hc⟩ := trim_last (l := Lib.decDigits d) (by
    obtain ⟨z, _, _, _, c, r, e, _⟩ := PF.trim_dec h1
    rw [e]; simp)
  have hg := trim_get (Lib.decDigits d)
  rw [Lib.decDigits_length] at hg
  obtain ⟨D, hD⟩ : ∃ D, PF.trim48 (Lib.decDigits d) = D := ⟨_, rfl⟩
  rw [hD] at hg ha ⊢
  obtain ⟨L, hL⟩ : ∃ L, D.length = L := ⟨_, rfl⟩
  obtain ⟨n, hnn⟩ : ∃ n, Lib.nDigits d = n := ⟨_, rfl⟩
  rw [hnn] at hn hg M ⊢
  rw [hL] at hg ⊢
  have hL1 : 1 ≤ L := by rw [← hL, ha]; simp
  have hLn : L ≤ n := (hg 0).2.2
  have hlast : D.getD (L - 1) 0 = c := by
    rw [← hL, ha]; simp
  have hnum : (Lib.decDigits d).length = n := by rw [Lib.decDigits_length, hnn]
  have HG := Lib.hid hg
  have HD := Lib.hid hL
  have HLAST := Lib.hid hlast
  have HNUM := Lib.hid hnum
  have hc2 : ((c.toNat : Int) == 48) = false := by
    rw [beq_eq_false_iff_ne]
    intro e
    exact hc (UInt8.toNat_inj.1 (by show c.toNat = 48; omega))
  clear hg hD ha hlast hnum hL hnn h h1 h2
  go_enter Tryz.func224, Tryz.ntmps224
  go_wp2_with fail
  refine M.out.mono ?_
  rintro e w1 ⟨rfl, hcc, hb⟩
  have HC := Lib.hid hcc
  have HB := Lib.hid hb
  clear hcc hb
  have HCD : Hid (Cells w1 b D) := Lib.hid (fun t ht => by
    have := HC.out t (by rw [HNUM.out]; rw [HD.out] at ht; omega)
    rw [this, (HG.out t).1 (by rw [← HD.out]; exact ht)])
  go_wp2_with fail
  go_loopw [3] (fun i wr => (∃ k : Nat, L ≤ k ∧ k ≤ n ∧ i = .int .i64 k) ∧ wr = w1) (fun i _ => (intOf i).toNat)
  case atStart => exact ⟨⟨n, hLn, Nat.le_refl _, rfl⟩, rfl⟩
  case round =>
    obtain ⟨⟨k, h2, h16, rfl⟩, hw⟩ := hrel
    obtain rfl := hw.symm
    have e1 : ((k : Int) - 1).toNat = k - 1 := by omega
    by_cases hk : k = L
    · subst hk
      have c1 := HCD.out (k - 1) (by rw [HD.out]; omega)
      rw [HLAST.out] at c1
      go_wp2
      go_ret2
      exact ⟨rfl, HCD.out, HB.out⟩
    · have c1 := HC.out (k - 1) (by rw [HNUM.out]; omega)
      rw [(HG.out (k - 1)).2.1 (by omega) (by omega)] at c1
      have c1 : w1.cell? ⟨b, k - 1, none⟩ = some (.int .u8 48) := c1
      go_wp2
      go_roundw
      case rel => exact ⟨⟨k - 1, by omega, by omega, by go_num⟩, trivial⟩
      case measure => simp [intOf]; omega
end Go.Proofs.YtagiddbfhlokcaaGreatDoor.Ff
/- FormatFloat at 1.5. Conditions: the cells of the two tables of powers. -/
namespace Go.Proofs.YtagiddbfhlokcaaGreatDoor.One
open Go.RowKit
set_option maxRecDepth 100000
theorem str_of_own {w : World} {base : Nat} {v : Value} (l : List UInt8) (h : w.ownsRow base 5 1 v l.length (Lib.byteCells l)) : (convert 59 9 v).run Tryz.prog w = .ok (.string ⟨l.toArray⟩) w := by
  rcases h.2 with ⟨rfl, h0⟩ | ⟨g, cap, cur, rfl, _⟩
  · have : l = [] := List.length_eq_zero_iff.1 h0
    subst this
    rw [run_convert_bytes_string w 59 9 5 none 0 0 Tryz.underlying59 Tryz.underlying5 Tryz.underlying9]
    rfl
  · refine run_convert_bytes_back w 59 9 5 ⟨g, 0, none⟩ cap l Tryz.underlying59 Tryz.underlying5 Tryz.underlying9 fun j hj => ?_
    have := h.cellAt j (by omega)
    have e : (Addr.add ⟨g, 0, none⟩ j) = ⟨g, j, none⟩ := by unfold Addr.add; split <;> simp_all
    rw [e, this]
    simp [Lib.byteCells, hj]

end Go.Proofs.YtagiddbfhlokcaaGreatDoor.One
/- Printing a float: what is appended to, while digits are laid. No condition. -/
namespace Go.Proofs.YtagiddbfhlokcaaGreatDoor.Ff
open Go.RowKit Go.Sort
set_option maxRecDepth 100000
/-- The row that is appended to holds l; the row b of digits holds D. -/
structure Fs (w0 : World) (B b : Nat) (D : List UInt8) (l : List UInt8) (g c : Nat) (w : World) : Prop where
  own : w.ownsRow B 5 1 (.slice (some ⟨g, 0, none⟩) l.length c) l.length (Lib.byteCells l)
  ds : Cells w b D
  gb : 0 < D.length → g ≠ b
  bel : Below B w0 w
  le : B ≤ w.heap.size
  bw : 0 < D.length → b < w.heap.size
  len : l.length ≤ 1000000
theorem Fs.app1 {w0 w : World} {B b g c : Nat} {D l : List UInt8} (h : Fs w0 B b D l g c w) (m : List UInt8) (hm : 0 < m.length) (hlen : l.length + m.length ≤ 1000000) {v' : Value} {w2 : World} (hown : w2.ownsRow B 5 1 v' (l.length + m.length) (Lib.byteCells l ++ Lib.byteCells m)) (hg : w.grownBy w2 (Value.slice (some ⟨g, 0, none⟩) l.length c).ownBlock) (hblk : v'.ownBlock = (Value.slice (some ⟨g, 0, none⟩) l.length c).ownBlock ∨ v'.ownBlock = some w.heap.size) :
    ∃ g2 c2 L, L = l ++ m ∧ v' = .slice (some ⟨g2, 0, none⟩) L.length c2 ∧ Fs w0 B b D L g2 c2 w2 := by
  rcases hown.2 with ⟨rfl, h0⟩ | ⟨g2, c2, cur, rfl, hrest⟩
  · omega
  · refine ⟨g2, c2, l ++ m, rfl, by rw [List.length_append], ⟨by rw [List.length_append, One.byteCells_app]; exact hown, fun t ht => ?_, fun hd => ?_, ?_, Nat.le_trans h.le hg.size, fun hd => Nat.lt_of_lt_of_le (h.bw hd) hg.size, by rw [List.length_append]; exact hlen⟩⟩
    · have hbk : w2.heap[b]? = w.heap[b]? := hg.block b (h.bw (by omega)) (fun e => by injection e with e; exact h.gb (by omega) e.symm)
      rw [World.cell?_of_block (a := ⟨b, t, none⟩) hbk]; exact h.ds t ht
    · rcases hblk with e | e
      · injection e with e; have e : g2 = g := e; rw [e]; exact h.gb hd
      · injection e with e; have e : g2 = w.heap.size := e; have := h.bw hd; omega
    · exact h.bel.grown hg h.le (fun j hj => by injection hj with hj; rw [← hj]; exact (h.own.lt g rfl).1)
theorem Fs.alloc {w0 w : World} {B b g c : Nat} {D l : List UInt8} (h : Fs w0 B b D l g c w) (o : Obj) : Fs w0 B b D l g c (w.alloc o) := by
  have hb := (Below.refl w.heap.size w).alloc (Nat.le_refl _) o
  refine ⟨World.ownsRow.alloc h.own _, fun t ht => ?_, h.gb, h.bel.alloc h.le o, Nat.le_trans h.le hb.size, fun hd => Nat.lt_of_lt_of_le (h.bw hd) hb.size, h.len⟩
  rw [hb.cell (p := ⟨b, t, none⟩) (h.bw (by omega))]; exact h.ds t ht
theorem Fs.app {w0 w : World} {B b g c : Nat} {D l : List UInt8} {o : Obj} (h : Fs w0 B b D l g c w) (m : List UInt8) (hm : 0 < m.length) (hlen : l.length + m.length ≤ 1000000) {v' : Value} {w2 : World} (hown : w2.ownsRow B 5 1 v' (l.length + m.length) (Lib.byteCells l ++ Lib.byteCells m)) (hg : (w.alloc o).grownBy w2 (Value.slice (some ⟨g, 0, none⟩) l.length c).ownBlock) (hblk : v'.ownBlock = (Value.slice (some ⟨g, 0, none⟩) l.length c).ownBlock ∨ v'.ownBlock = some (w.alloc o).heap.size) :
    ∃ g2 c2 L, L = l ++ m ∧ v' = .slice (some ⟨g2, 0, none⟩) L.length c2 ∧ Fs w0 B b D L g2 c2 w2 := (h.alloc o).app1 m hm hlen hown hg hblk
/-- A slot that holds the row. -/
def DstAt (w0 : World) (B b : Nat) (D l : List UInt8) (v : Value) (w : World) : Prop := ∃ g c, v = .slice (some ⟨g, 0, none⟩) l.length c ∧ Fs w0 B b D l g c w
end Go.Proofs.YtagiddbfhlokcaaGreatDoor.Ff
