/- Several texts of this proof, laid together. Conditions: as each says. -/
import Derived.Test.YtagiddbfhlokcaaGreatDoorRows
import Derived.Test.YtagiddbfhlokcaaGreatDoorVAA
import Derived.Test.YtagiddbfhlokcaaGreatDoorVAC
import Derived.WalkKit
import Derived.ProofKit
import Derived.OpenShut
import Derived.Below
import Derived.WalkLawsBesides
import Derived.WalkSpells
import Derived.BigQuiet
import Derived.Lib.Hide
import Derived.Deep.AppendLies
import Derived.Lib.SmallJoins
import Derived.Deep.RegionHeld
import Derived.OwnWalk
import Derived.Lib.Bytes
import Derived.Deep.RegionLaw
/- FormatFloat's arithmetic at 1.5: the scaling. Conditions: two cells of the table of powers. -/
namespace Go.Proofs.YtagiddbfhlokcaaGreatDoor.One
open Go.RowKit
set_option maxRecDepth 100000
theorem log2 (w : World) : Calls Tryz.prog 240 #[.int .i64 16] w fun e w' => e = .returned (.int .i64 53) ∧ w' = w := by
  go_enter Tryz.func240, Tryz.ntmps240
  go_wp2
  go_ret
  exact ⟨rfl, rfl⟩
theorem log10 (w : World) : Calls Tryz.prog 159 #[.int .i64 (-52)] w fun e w' => e = .returned (.int .i64 (-16)) ∧ w' = w := by
  go_enter Tryz.func159, Tryz.ntmps159
  go_wp2
  go_ret
  exact ⟨rfl, rfl⟩
def Pow (w : World) : Prop := w.cell? ⟨15, 728, none⟩ = some (.int .u64 10240000000000000000) ∧ w.cell? ⟨15, 729, none⟩ = some (.int .u64 0)
def Pre (w : World) (b : Nat) (x y z : Value) : Prop := w.heap[b]? = some (.cells #[x, y, z] 306 (0, 0))
theorem Pre.c0 {w : World} {b : Nat} {x y z : Value} (h : Pre w b x y z) : w.cell? ⟨b, 0, none⟩ = some x := by rw [Lib.cell_of_heap h]; rfl
theorem Pre.c1 {w : World} {b : Nat} {x y z : Value} (h : Pre w b x y z) : w.cell? ⟨b, 1, none⟩ = some y := by rw [Lib.cell_of_heap h]; rfl
theorem Pre.c2 {w : World} {b : Nat} {x y z : Value} (h : Pre w b x y z) : w.cell? ⟨b, 2, none⟩ = some z := by rw [Lib.cell_of_heap h]; rfl
theorem nudge0 (u : Nat) (w : World) (h : u = 59999999999999995 ∨ u = 60000000000000005) : Calls Tryz.prog 252 #[.int .u64 u, .int .i64 0] w fun e w' => e = .returned (.int .u64 u) ∧ w' = w := by
  rcases h with rfl | rfl <;>
  · go_enter Tryz.func252, Tryz.ntmps252
    go_wp2
    go_ret
    exact ⟨rfl, rfl⟩
theorem ceil15 (w : World) : Calls Tryz.prog 253 #[.int .u64 59999999999999995] w fun e w' => e = .returned (.int .u64 14999999999999999) ∧ w' = w := by
  go_enter Tryz.func253, Tryz.ntmps253
  go_wp2
  go_ret
  exact ⟨rfl, rfl⟩
theorem floor15 (w : World) : Calls Tryz.prog 254 #[.int .u64 60000000000000005] w fun e w' => e = .returned (.int .u64 15000000000000001) ∧ w' = w := by
  go_enter Tryz.func254, Tryz.ntmps254
  go_wp2
  go_ret
  exact ⟨rfl, rfl⟩
theorem mulLo (w : World) : Calls Tryz.prog 271 #[.int .u64 13835058055282162688, .int .u64 10240000000000000000] w fun e w' => e = .returned (.tuple #[.int .u64 7679999999999999431, .int .u64 10437377940734869504]) ∧ w' = w := by
  have h := Tryz.bits_Mul64 13835058055282162688 10240000000000000000 (by omega) (by omega) w
  have e1 : 13835058055282162688 * 10240000000000000000 / 18446744073709551616 = 7679999999999999431 := by rfl
  have e2 : 13835058055282162688 * 10240000000000000000 % 18446744073709551616 = 10437377940734869504 := by rfl
  rw [e1, e2] at h
  exact h
theorem mulHi (w : World) : Calls Tryz.prog 271 #[.int .u64 13835058055282164736, .int .u64 10240000000000000000] w fun e w' => e = .returned (.tuple #[.int .u64 7680000000000000568, .int .u64 8009366132974682112]) ∧ w' = w := by
  have h := Tryz.bits_Mul64 13835058055282164736 10240000000000000000 (by omega) (by omega) w
  have e1 : 13835058055282164736 * 10240000000000000000 / 18446744073709551616 = 7680000000000000568 := by rfl
  have e2 : 13835058055282164736 * 10240000000000000000 % 18446744073709551616 = 8009366132974682112 := by rfl
  rw [e1, e2] at h
  exact h
theorem uscaleLo (w : World) (b : Nat) (y : Value) (h : Pre w b (.int .u64 10240000000000000000) y (.int .i64 7)) : Calls Tryz.prog 242 #[.int .u64 13835058055282162688, .pointer (some ⟨b, 0, none⟩)] w fun e w' => e = .returned (.int .u64 59999999999999995) ∧ w' = w := by
  have c0 := h.c0
  have c2 := h.c2
  have b7 : bits BinOp.and IntKind.i64 7 63 = 7 := by kernel_rfl
  have b8 : bits BinOp.or IntKind.u64 59999999999999995 1 = 59999999999999995 := by kernel_rfl
  have b9 : bits BinOp.or IntKind.u64 60000000000000004 1 = 60000000000000005 := by kernel_rfl
  go_enter Tryz.func242, Tryz.ntmps242
  go_wp2_with fail
  refine (mulLo _).mono ?_
  rintro e w' ⟨rfl, rfl⟩
  go_wp2_with fail
  go_ret
  exact ⟨rfl, rfl⟩
theorem uscaleHi (w : World) (b : Nat) (y : Value) (h : Pre w b (.int .u64 10240000000000000000) y (.int .i64 7)) : Calls Tryz.prog 242 #[.int .u64 13835058055282164736, .pointer (some ⟨b, 0, none⟩)] w fun e w' => e = .returned (.int .u64 60000000000000005) ∧ w' = w := by
  have c0 := h.c0
  have c2 := h.c2
  have b7 : bits BinOp.and IntKind.i64 7 63 = 7 := by kernel_rfl
  have b8 : bits BinOp.or IntKind.u64 59999999999999995 1 = 59999999999999995 := by kernel_rfl
  have b9 : bits BinOp.or IntKind.u64 60000000000000004 1 = 60000000000000005 := by kernel_rfl
  go_enter Tryz.func242, Tryz.ntmps242
  go_wp2_with fail
  refine (mulHi _).mono ?_
  rintro e w' ⟨rfl, rfl⟩
  go_wp2_with fail
  go_ret
  exact ⟨rfl, rfl⟩
end Go.Proofs.YtagiddbfhlokcaaGreatDoor.One
/- FormatFloat's shortest digits at 1.5. Conditions: two cells of the table of powers. -/
namespace Go.Proofs.YtagiddbfhlokcaaGreatDoor.One
open Go.RowKit
set_option maxRecDepth 100000
theorem Pre.set0 {w : World} {b : Nat} {x y z : Value} (h : Pre w b x y z) (v : Value) : Pre (w.setCell ⟨b, 0, none⟩ v) b v y z := Joins.block_setCell (i := 0) h v
theorem Pre.set1 {w : World} {b : Nat} {x y z : Value} (h : Pre w b x y z) (v : Value) : Pre (w.setCell ⟨b, 1, none⟩ v) b x v z := Joins.block_setCell (i := 1) h v
theorem Pre.set2 {w : World} {b : Nat} {x y z : Value} (h : Pre w b x y z) (v : Value) : Pre (w.setCell ⟨b, 2, none⟩ v) b x y v := Joins.block_setCell (i := 2) h v
theorem Pow.set {w : World} {b i : Nat} (h : Pow w) (hb : 15 < b) (v : Value) : Pow (w.setCell ⟨b, i, none⟩ v) :=
  ⟨by rw [World.cell?_setCell_far _ _ _ _ (by simp; omega)]; exact h.1, by rw [World.cell?_setCell_far _ _ _ _ (by simp; omega)]; exact h.2⟩
theorem prescale15 (w : World) (b : Nat) (x y z : Value) (h : Pre w b x y z) (hp : Pow w) (hb : 15 < b) :
    Calls Tryz.prog 241 #[.pointer (some ⟨b, 0, none⟩), .int .i64 (-63), .int .i64 16, .int .i64 53] w fun e w' => e = .returned (.tuple #[]) ∧ Pre w' b (.int .u64 10240000000000000000) (.int .u64 0) (.int .i64 7) ∧ Below b w w' := by
  have p0 := hp.1
  have c0 := h.c0
  have h1 := h.set0 (.int .u64 10240000000000000000)
  have p1 := (hp.set (i := 0) hb (.int .u64 10240000000000000000)).2
  have c1 := h1.c1
  have h2 := h1.set1 (.int .u64 0)
  have c2 := h2.c2
  have f0 := Lib.frozen_of_heap h 0
  have f1 := Lib.frozen_of_heap h1 1
  have f2 := Lib.frozen_of_heap h2 2
  have H3 := Lib.hid (h2.set2 (.int .i64 7))
  clear h h1 h2 hp
  go_enter Tryz.func241, Tryz.ntmps241
  go_wp2
  go_end0
  exact ⟨rfl, H3.out, (((Below.refl b w).setCell (p := ⟨b, 0, none⟩) (Nat.le_refl _) _).setCell (p := ⟨b, 1, none⟩) (Nat.le_refl _) _).setCell (p := ⟨b, 2, none⟩) (Nat.le_refl _) _⟩
theorem short15 (w : World) (hp : Pow w) (h8 : 15 < w.heap.size) :
    Calls Tryz.prog 229 #[.int .u64 13835058055282163712, .int .i64 (-63)] w fun e w' => e = .returned (.tuple #[.int .u64 1500000000000000, .int .i64 (-15)]) ∧ Below w.heap.size w w' := by
  have hpre : Pre (w.alloc (.cells #[.int .u64 0, .int .u64 0, .int .i64 0] 306)) w.heap.size (.int .u64 0) (.int .u64 0) (.int .i64 0) := heap_alloc_new w _
  have hpow : Pow (w.alloc (.cells #[.int .u64 0, .int .u64 0, .int .i64 0] 306)) := ⟨((Below.refl _ _).alloc (Nat.le_refl _) _).cell (p := ⟨15, 728, none⟩) h8 |>.trans hp.1, ((Below.refl _ _).alloc (Nat.le_refl _) _).cell (p := ⟨15, 729, none⟩) h8 |>.trans hp.2⟩
  have HPRE := Lib.hid hpre
  have HPOW := Lib.hid hpow
  have H8 := Lib.hid h8
  clear hpre hpow hp h8
  have a1 : bits BinOp.and IntKind.i64 6755399441055744 1 = 0 := by kernel_rfl
  go_enter Tryz.func229, Tryz.ntmps229
  go_wp2_with fail
  refine (log10 _).mono ?_
  rintro e w' ⟨rfl, hw⟩
  obtain rfl := hw.symm
  clear hw
  go_wp2_with fail
  refine (log2 _).mono ?_
  rintro e w' ⟨rfl, hw⟩
  obtain rfl := hw.symm
  clear hw
  go_wp2_with fail
  refine (prescale15 _ _ _ _ _ HPRE.out HPOW.out H8.out).mono ?_
  rintro e w1 ⟨rfl, h1, hb1⟩
  have H1 := Lib.hid h1
  have HB := Lib.hid (((Below.refl w.heap.size w).alloc (Nat.le_refl _) _).trans hb1)
  clear h1 hb1
  go_wp2_with fail
  refine (uscaleLo _ _ _ H1.out).mono ?_
  rintro e w' ⟨rfl, hw⟩
  obtain rfl := hw.symm
  clear hw
  go_wp2_with fail
  refine (nudge0 59999999999999995 _ (.inl rfl)).mono ?_
  rintro e w' ⟨rfl, hw⟩
  obtain rfl := hw.symm
  clear hw
  go_wp2_with fail
  refine (ceil15 _).mono ?_
  rintro e w' ⟨rfl, hw⟩
  obtain rfl := hw.symm
  clear hw
  go_wp2_with fail
  refine (uscaleHi _ _ _ H1.out).mono ?_
  rintro e w' ⟨rfl, hw⟩
  obtain rfl := hw.symm
  clear hw
  go_wp2_with fail
  refine (nudge0 60000000000000005 _ (.inr rfl)).mono ?_
  rintro e w' ⟨rfl, hw⟩
  obtain rfl := hw.symm
  clear hw
  go_wp2_with fail
  refine (floor15 _).mono ?_
  rintro e w' ⟨rfl, hw⟩
  obtain rfl := hw.symm
  clear hw
  go_wp2_with fail
  go_ret2
  exact ⟨rfl, HB.out⟩
end Go.Proofs.YtagiddbfhlokcaaGreatDoor.One
/- setDigits at 1.5's digits. No condition but the row of 32 noughts. -/
namespace Go.Proofs.YtagiddbfhlokcaaGreatDoor.One
open Go.RowKit Go.Sort
set_option maxRecDepth 100000
def encB (b : UInt8) : Value := Value.int .u8 (b.toNat : Int)
theorem dgs : ∀ t : Fin 16, Lib.dg 1500000000000000 (15 - t.val) = (if t.val = 0 then 49 else if t.val = 1 then 53 else 48) := by decide +kernel
theorem fmt15 (w : World) (b : Nat) (hH : Holds encB w b 0 (Array.replicate 16 0)) :
    Calls Tryz.prog 112 #[.slice (some ⟨b, 0, none⟩) 16 32, .int .u64 1500000000000000] w fun e w' => e = .returned (.tuple #[]) ∧ (∀ t, t < 16 → w'.cell? ⟨b, t, none⟩ = some (.int .u8 (if t = 0 then 49 else if t = 1 then 53 else 48))) ∧ Below b w w' := by
  have h := Tryz.internal_strconv_formatBase10 b 0 32 1500000000000000 (Array.replicate 16 0) w hH (by rw [Array.size_replicate]; decide) (by omega) (by rw [Array.size_replicate]; omega)
  rw [Array.size_replicate] at h
  refine h.mono ?_
  rintro e w' ⟨rfl, n, v', dk, rfl, hf⟩
  refine ⟨rfl, fun t ht => ?_, ?_⟩
  · have h1 := cell?_putRow encB w b 0 _ dk hH (by rw [hf.size, Array.size_replicate]) t (by rw [hf.size]; exact ht)
    have h2 := hf.done t (by omega) ht
    have h3 := dgs ⟨t, ht⟩
    rw [show 16 - 1 - t = 15 - t by omega] at h2
    simp only at h3
    rw [h2, h3, Nat.zero_add] at h1
    refine Eq.trans h1 ?_
    unfold encB
    split
    · rfl
    · split <;> rfl
  · exact ⟨rfl, rfl, rfl, by simp [putRow, mapBlock, World.drewN], fun i hi => by simp only [putRow, mapBlock, World.drewN]; rw [Array.getElem?_modify, if_neg (by omega)]⟩
theorem setDigits15 (w : World) (b : Nat) (hH : Holds encB w b 0 (Array.replicate 16 0)) :
    Calls Tryz.prog 224 #[.slice (some ⟨b, 0, none⟩) 32 32, .int .u64 1500000000000000, .int .i64 (-15), .int .i64 16] w fun e w' => e = .returned (.tuple #[.int .i64 1, .int .i64 2]) ∧ (w'.cell? ⟨b, 0, none⟩ = some (.int .u8 49) ∧ w'.cell? ⟨b, 1, none⟩ = some (.int .u8 53)) ∧ Below b w w' := by
  have HH := Lib.hid hH
  clear hH
  go_enter Tryz.func224, Tryz.ntmps224
  go_wp2_with fail
  refine (fmt15 _ _ HH.out).mono ?_
  rintro e w1 ⟨rfl, hc, hb⟩
  have HC := Lib.hid hc
  have HB := Lib.hid hb
  clear hc hb
  go_wp2_with fail
  go_loopw [3] (fun i wr => (∃ k : Nat, 2 ≤ k ∧ k ≤ 16 ∧ i = .int .i64 k) ∧ wr = w1) (fun i _ => (intOf i).toNat)
  case atStart => exact ⟨⟨16, by omega, by omega, rfl⟩, rfl⟩
  case round =>
    obtain ⟨⟨k, h2, h16, rfl⟩, hw⟩ := hrel
    obtain rfl := hw.symm
    by_cases hk : k = 2
    · subst hk
      have c1 := HC.out 1 (by omega)
      simp only [if_neg (show ¬(1 : Nat) = 0 by omega), if_pos] at c1
      go_wp2
      go_ret2
      exact ⟨rfl, ⟨HC.out 0 (by omega), HC.out 1 (by omega)⟩, HB.out⟩
    · have c1 := HC.out (k - 1) (by omega)
      rw [if_neg (by omega), if_neg (by omega)] at c1
      have e1 : ((k : Int) - 1).toNat = k - 1 := by omega
      go_wp2
      go_roundw
      case rel => exact ⟨⟨k - 1, by omega, by omega, by go_num⟩, trivial⟩
      case measure => simp [intOf]; omega
end Go.Proofs.YtagiddbfhlokcaaGreatDoor.One
/- fmtEFG at 1.5's digits. No condition. -/
namespace Go.Proofs.YtagiddbfhlokcaaGreatDoor.One
open Go.RowKit
set_option maxRecDepth 100000
theorem info5 : (Tryz.prog.info? 5).map (fun i => (i.zero, i.size, i.bytes)) = some (some (.int .u8 0), 1, 1) := by kernel_rfl
structure St (w0 : World) (g b : Nat) (l : List UInt8) (w : World) : Prop where
  own : w.ownsRow g 5 1 (.slice (some ⟨g, 0, none⟩) l.length 24) l.length (Lib.byteCells l)
  c0 : w.cell? ⟨b, 0, none⟩ = some (.int .u8 49)
  c1 : w.cell? ⟨b, 1, none⟩ = some (.int .u8 53)
  bel : Below g w0 w
  gb : g < b
  bw : b < w.heap.size
theorem byteCells_app (l m : List UInt8) : Lib.byteCells (l ++ m) = Lib.byteCells l ++ Lib.byteCells m := by simp [Lib.byteCells]
theorem St.app1 {w0 w w2 : World} {g b : Nat} {l : List UInt8} (h : St w0 g b l w) (m : List UInt8) (hown : w2.ownsRow g 5 1 (.slice (some ⟨g, 0, none⟩) (l.length + m.length) 24) (l.length + m.length) (Lib.byteCells l ++ Lib.byteCells m)) (hg : w.grownBy w2 (some g)) : St w0 g b (l ++ m) w2 := by
  have hbk : w2.heap[b]? = w.heap[b]? := hg.block b h.bw (fun e => by have := h.gb; cases e; omega)
  refine ⟨by rw [List.length_append, byteCells_app]; exact hown, ?_, ?_, ?_, h.gb, Nat.lt_of_lt_of_le h.bw hg.size⟩
  · rw [World.cell?_of_block hbk]; exact h.c0
  · rw [World.cell?_of_block hbk]; exact h.c1
  · exact h.bel.grown hg (by have := h.gb; have := h.bw; omega) (fun j hj => by cases hj; exact Nat.le_refl _)
theorem St.alloc {w0 w : World} {g b : Nat} {l : List UInt8} (h : St w0 g b l w) (o : Obj) : St w0 g b l (w.alloc o) := by
  have hb := (Below.refl w.heap.size w).alloc (Nat.le_refl _) o
  refine ⟨World.ownsRow.alloc h.own _, ?_, ?_, ?_, h.gb, Nat.lt_of_lt_of_le h.bw hb.size⟩
  · rw [hb.cell (p := ⟨b, 0, none⟩) h.bw]; exact h.c0
  · rw [hb.cell (p := ⟨b, 1, none⟩) h.bw]; exact h.c1
  · exact h.bel.alloc (by have := h.gb; have := h.bw; omega) o
theorem St.app {w0 w w2 : World} {g b : Nat} {l : List UInt8} {o : Obj} (h : St w0 g b l w) (m : List UInt8) (hown : w2.ownsRow g 5 1 (.slice (some ⟨g, 0, none⟩) (l.length + m.length) 24) (l.length + m.length) (Lib.byteCells l ++ Lib.byteCells m)) (hg : (w.alloc o).grownBy w2 (some g)) : St w0 g b (l ++ m) w2 := (h.alloc o).app1 m hown hg
theorem news1 {w : World} {b : Nat} (h : w.cell? ⟨b, 1, none⟩ = some (.int .u8 53)) : ∀ j u, [Value.int .u8 53][j]? = some u → w.cell? (Addr.add ⟨b, 1, none⟩ j) = some u := by
  intro j u hj
  match j, hj with
  | 0, hj => simp at hj; subst hj; simpa [Addr.add] using h

theorem efg15e (w0 w1 : World) (g b : Nat) (h : St w0 g b [] w1) :
    Calls Tryz.prog 222 #[.slice (some ⟨g, 0, none⟩) 0 24, .bool false, .slice (some ⟨b, 0, none⟩) 32 32, .int .i64 1, .int .i64 2, .int .i64 1, .int .u8 101, .bool true] w1 fun e w' => e = .returned (.slice (some ⟨g, 0, none⟩) 7 24) ∧ St w0 g b [49, 46, 53, 101, 43, 48, 48] w' := by
  obtain ⟨i0, hi, hz0, hz1, hz2⟩ := info_parts info5
  have HI := Lib.hid hi
  have HZ1 := Lib.hid hz1
  have HS0 := Lib.hid h
  clear hi hz0 hz1 hz2 h
  have k0 := HS0.out.c0
  go_enter Tryz.func222, Tryz.ntmps222
  go_wp2_with (first
    | (at_builtin; (refine wpList_append_fits _ rfl (.tmp 87) (.tmp 89) 59 rfl g 5 i0 1 Tryz.underlying59 HI.out HZ1.out g 0 24 (Lib.byteCells []) rfl (World.ownsRow.alloc HS0.out.own _) ⟨w1.heap.size, 0, none⟩ 1 1 [.int .u8 49] rfl rfl (World.news_of_block (cs := #[.int .u8 49]) (t := 5) (fr := (0, 0)) (heap_alloc_new w1 _)) (by simp [Value.oneCell']) (by omega) ?_); intro w2 hown hgrow; have HS1 := Lib.hid (HS0.out.app [49] hown hgrow); clear hown hgrow)
    | (at_builtin; (refine wpList_append_fits _ rfl (.tmp 93) (.tmp 94) 59 rfl g 5 i0 1 Tryz.underlying59 HI.out HZ1.out g 1 24 (Lib.byteCells [49]) rfl (World.ownsRow.alloc HS1.out.own _) ⟨w2.heap.size, 0, none⟩ 1 1 [.int .u8 46] rfl rfl (World.news_of_block (cs := #[.int .u8 46]) (t := 5) (fr := (0, 0)) (heap_alloc_new w2 _)) (by simp [Value.oneCell']) (by omega) ?_); intro w3 hown hgrow; have HS2 := Lib.hid (HS1.out.app [46] hown hgrow); clear hown hgrow)
    | (at_builtin; go_must (refine wpList_append_fits _ rfl (.tmp 103) (.tmp 107) 59 rfl g 5 i0 1 Tryz.underlying59 HI.out HZ1.out g 2 24 (Lib.byteCells [49, 46]) rfl HS2.out.own ⟨b, 1, none⟩ 1 31 [.int .u8 53] rfl rfl (news1 HS2.out.c1) (by simp [Value.oneCell']) (by omega) ?_); intro w4 hown hgrow; have HS3 := Lib.hid (HS2.out.app1 [53] hown hgrow); clear hown hgrow)
    | fail)
  go_loopw [0, 114] (fun v i wr => v = .slice (some ⟨g, 0, none⟩) 3 24 ∧ i = .int .i64 0 ∧ wr = w4) (fun _ _ _ => 0)
  case atStart => exact ⟨rfl, rfl, rfl⟩
  case round =>
    obtain ⟨rfl, rfl, hw⟩ := hrel
    obtain rfl := hw.symm
    go_wp2_with (first
      | (at_builtin; (refine wpList_append_fits _ rfl (.tmp 120) (.tmp 122) 59 rfl g 5 i0 1 Tryz.underlying59 HI.out HZ1.out g 3 24 (Lib.byteCells [49, 46, 53]) rfl (World.ownsRow.alloc HS3.out.own _) ⟨w4.heap.size, 0, none⟩ 1 1 [.int .u8 101] rfl rfl (World.news_of_block (cs := #[.int .u8 101]) (t := 5) (fr := (0, 0)) (heap_alloc_new w4 _)) (by simp [Value.oneCell']) (by omega) ?_); intro w5 hown hgrow; have HS4 := Lib.hid (HS3.out.app [101] hown hgrow); clear hown hgrow)
      | (at_builtin; (refine wpList_append_fits _ rfl (.tmp 132) (.tmp 134) 59 rfl g 5 i0 1 Tryz.underlying59 HI.out HZ1.out g 4 24 (Lib.byteCells [49, 46, 53, 101]) rfl (World.ownsRow.alloc HS4.out.own _) ⟨w5.heap.size, 0, none⟩ 1 1 [.int .u8 43] rfl rfl (World.news_of_block (cs := #[.int .u8 43]) (t := 5) (fr := (0, 0)) (heap_alloc_new w5 _)) (by simp [Value.oneCell']) (by omega) ?_); intro w6 hown hgrow; have HS5 := Lib.hid (HS4.out.app [43] hown hgrow); clear hown hgrow)
      | (at_builtin; go_must (refine wpList_append_fits _ rfl (.tmp 155) (.tmp 159) 59 rfl g 5 i0 1 Tryz.underlying59 HI.out HZ1.out g 5 24 (Lib.byteCells [49, 46, 53, 101, 43]) rfl (World.ownsRow.alloc HS5.out.own _) ⟨w6.heap.size, 0, none⟩ 2 2 [.int .u8 48, .int .u8 48] rfl rfl (World.news_of_block (cs := #[.int .u8 48, .int .u8 48]) (t := 5) (fr := (0, 0)) (heap_alloc_new w6 _)) (by simp [Value.oneCell']) (by omega) ?_); intro w7 hown hgrow; have HS6 := Lib.hid (HS5.out.app [48, 48] hown hgrow); clear hown hgrow)
      | fail)
    go_ret
    exact ⟨rfl, HS6.out⟩
end Go.Proofs.YtagiddbfhlokcaaGreatDoor.One
/- fmtEFG at 1.5's digits, by 'f'. No condition. -/
namespace Go.Proofs.YtagiddbfhlokcaaGreatDoor.One
open Go.RowKit
set_option maxRecDepth 100000
theorem efg15f (w0 w1 : World) (g b : Nat) (h : St w0 g b [] w1) :
    Calls Tryz.prog 222 #[.slice (some ⟨g, 0, none⟩) 0 24, .bool false, .slice (some ⟨b, 0, none⟩) 32 32, .int .i64 1, .int .i64 2, .int .i64 1, .int .u8 102, .bool true] w1 fun e w' => e = .returned (.slice (some ⟨g, 0, none⟩) 3 24) ∧ St w0 g b [49, 46, 53] w' := by
  obtain ⟨i0, hi, hz0, hz1, hz2⟩ := info_parts info5
  have HI := Lib.hid hi
  have HZ1 := Lib.hid hz1
  have HS0 := Lib.hid h
  clear hi hz0 hz1 hz2 h
  have k0 := HS0.out.c0
  have mm0 : max (0 : Int) (-1) = 0 := by decide
  have mm1 : min (1 : Int) 0 = 0 := by decide
  have mm2 : max (0 : Int) 1 = 1 := by decide
  have mm3 : min (1 : Int) 1 = 1 := by decide
  go_enter Tryz.func222, Tryz.ntmps222
  go_wp2_with fail
  go_loopw [0, 25, 191] (fun v _ i wr => (v = .slice (some ⟨g, 0, none⟩) 0 24 ∧ i = .int .i64 0 ∧ wr = w1) ∨ (v = .slice (some ⟨g, 0, none⟩) 1 24 ∧ i = .int .i64 1 ∧ St w0 g b [49] wr)) (fun _ _ i _ => 1 - (intOf i).toNat)
  case atStart => exact .inl ⟨rfl, rfl, rfl⟩
  case round =>
    rcases hrel with ⟨rfl, rfl, hw⟩ | ⟨rfl, rfl, h1⟩
    · obtain rfl := hw.symm
      go_wp2_with ((at_builtin; go_must (refine wpList_append_fits _ rfl (.tmp 195) (.tmp 197) 59 rfl g 5 i0 1 Tryz.underlying59 HI.out HZ1.out g 0 24 (Lib.byteCells []) rfl (World.ownsRow.alloc HS0.out.own _) ⟨w1.heap.size, 0, none⟩ 1 1 [.int .u8 49] rfl rfl (World.news_of_block (cs := #[.int .u8 49]) (t := 5) (fr := (0, 0)) (heap_alloc_new w1 _)) (by simp [Value.oneCell']) (by omega) ?_); intro w2 hown hgrow; have HS1 := Lib.hid (HS0.out.app [49] hown hgrow); clear hown hgrow))
      go_roundw
      case rel => exact .inr ⟨rfl, by go_num, HS1.out⟩
      case measure => simp [intOf]
    · obtain ⟨wa, hwa⟩ : ∃ wa, wa = wr := ⟨_, rfl⟩
      subst hwa
      have HS1 := Lib.hid h1
      clear h1
      go_wp2_with fail
      go_loopw [0, 203] (fun v i wr => v = .slice (some ⟨g, 0, none⟩) 1 24 ∧ i = .int .i64 0 ∧ wr = wa) (fun _ _ _ => 0)
      case atStart => exact ⟨rfl, rfl, rfl⟩
      case round =>
        obtain ⟨rfl, rfl, hw⟩ := hrel
        obtain rfl := hw.symm
        go_wp2_with ((at_builtin; go_must (refine wpList_append_fits _ rfl (.tmp 214) (.tmp 215) 59 rfl g 5 i0 1 Tryz.underlying59 HI.out HZ1.out g 1 24 (Lib.byteCells [49]) rfl (World.ownsRow.alloc HS1.out.own _) ⟨wa.heap.size, 0, none⟩ 1 1 [.int .u8 46] rfl rfl (World.news_of_block (cs := #[.int .u8 46]) (t := 5) (fr := (0, 0)) (heap_alloc_new wa _)) (by simp [Value.oneCell']) (by omega) ?_); intro w3 hown hgrow; have HS2 := Lib.hid (HS1.out.app [46] hown hgrow); clear hown hgrow))
        go_loopw [0, 240] (fun v i wr => v = .slice (some ⟨g, 0, none⟩) 2 24 ∧ i = .int .i64 0 ∧ wr = w3) (fun _ _ _ => 0)
        case atStart => exact ⟨rfl, rfl, rfl⟩
        case round =>
          obtain ⟨rfl, rfl, hw⟩ := hrel
          obtain rfl := hw.symm
          go_wp2_with fail
          go_loopw [0, 30, 247] (fun v _ i wr => (v = .slice (some ⟨g, 0, none⟩) 2 24 ∧ i = .int .i64 0 ∧ wr = w3) ∨ (v = .slice (some ⟨g, 0, none⟩) 3 24 ∧ i = .int .i64 1 ∧ St w0 g b [49, 46, 53] wr)) (fun _ _ i _ => 1 - (intOf i).toNat)
          case atStart => exact .inl ⟨rfl, rfl, rfl⟩
          case round =>
            rcases hrel with ⟨rfl, rfl, hw⟩ | ⟨rfl, rfl, h1⟩
            · obtain rfl := hw.symm
              have k1 := HS2.out.c1
              go_wp2_with ((at_builtin; go_must (refine wpList_append_fits _ rfl (.tmp 250) (.tmp 257) 59 rfl g 5 i0 1 Tryz.underlying59 HI.out HZ1.out g 2 24 (Lib.byteCells [49, 46]) rfl (World.ownsRow.alloc HS2.out.own _) ⟨w3.heap.size, 0, none⟩ 1 1 [.int .u8 53] rfl rfl (World.news_of_block (cs := #[.int .u8 53]) (t := 5) (fr := (0, 0)) (heap_alloc_new w3 _)) (by simp [Value.oneCell']) (by omega) ?_); intro w4 hown hgrow; have HS3 := Lib.hid (HS2.out.app [53] hown hgrow); clear hown hgrow))
              go_roundw
              case rel => exact .inr ⟨rfl, by go_num, HS3.out⟩
              case measure => simp [intOf]
            · obtain ⟨wb, hwb⟩ : ∃ wb, wb = wr := ⟨_, rfl⟩
              subst hwb
              have HS3 := Lib.hid h1
              clear h1
              go_wp2_with fail
              go_loopw [0, 261] (fun v i wr => v = .slice (some ⟨g, 0, none⟩) 3 24 ∧ i = .int .i64 0 ∧ wr = wb) (fun _ _ _ => 0)
              case atStart => exact ⟨rfl, rfl, rfl⟩
              case round =>
                obtain ⟨rfl, rfl, hw⟩ := hrel
                obtain rfl := hw.symm
                go_wp2_with fail
                go_ret
                exact ⟨rfl, HS3.out⟩
end Go.Proofs.YtagiddbfhlokcaaGreatDoor.One
/- ftoa64 at 1.5. Conditions: the cells of the two tables of powers. -/
namespace Go.Proofs.YtagiddbfhlokcaaGreatDoor.One
open Go.RowKit Go.Sort
set_option maxRecDepth 100000
structure Env (w : World) : Prop where
  pow : Pow w
  tab : Lib.TabIs Tryz.prog w "internal/strconv.uint64pow10" .u64 Lib.pow10Tab
theorem Env.later {w w' : World} {B : Nat} (h : Env w) (hb : Below B w w') (h8 : 15 < B) : Env w' := by
  refine ⟨⟨(hb.cell (p := ⟨15, 728, none⟩) h8).trans h.pow.1, (hb.cell (p := ⟨15, 729, none⟩) h8).trans h.pow.2⟩, ?_⟩
  have ht := h.tab
  have hg : Tryz.prog.globalNamed "internal/strconv.uint64pow10" = some 1 := by kernel_rfl
  unfold Lib.TabIs World.var? at ht ⊢
  rw [hg] at ht ⊢
  simp only [Option.bind_some] at ht ⊢
  rw [hb.block 1 (by omega)]
  exact ht
theorem Env.drew {w : World} (h : Env w) : Env w.drew := ⟨⟨h.pow.1, h.pow.2⟩, h.tab⟩
theorem bits65 (w : World) : (callFunc 219 #[.float .f64 4609434218613702656]).run Tryz.prog w = .ok (.value (.int .u64 4609434218613702656)) w := by
  rw [run_callFunc_extern (e := Extern.MathFloatBits.float64bits) Tryz.func219 (by kernel_rfl) (by kernel_rfl) (by kernel_rfl) (by kernel_rfl)]
  rfl
theorem len15 (w : World) : Calls Tryz.prog 132 #[.int .u64 6755399441055744] w fun e w' => e = .returned (.int .i64 53) ∧ w = w' := by
  refine (Tryz.bits_Len64 6755399441055744 w (by omega) (by omega)).mono ?_
  rintro e w' ⟨rfl, h⟩
  exact ⟨by rw [show Lib.bitLen (Int.toNat 6755399441055744) = 53 by decide +kernel]; rfl, h.symm⟩
theorem num15 (w : World) (h : Env w) : Calls Tryz.prog 111 #[.int .u64 1500000000000000] w fun e w' => e = .returned (.int .i64 16) ∧ w = w' := by
  refine (Tryz.internal_strconv_numDigits 1500000000000000 (by omega) (by omega) w h.tab).mono ?_
  rintro e w' ⟨rfl, h⟩
  exact ⟨by rw [show Lib.nDigits 1500000000000000 = 16 by decide +kernel]; rfl, h.symm⟩
def zeros32 : Array Value := #[.int .u8 0, .int .u8 0, .int .u8 0, .int .u8 0, .int .u8 0, .int .u8 0, .int .u8 0, .int .u8 0, .int .u8 0, .int .u8 0, .int .u8 0, .int .u8 0, .int .u8 0, .int .u8 0, .int .u8 0, .int .u8 0, .int .u8 0, .int .u8 0, .int .u8 0, .int .u8 0, .int .u8 0, .int .u8 0, .int .u8 0, .int .u8 0, .int .u8 0, .int .u8 0, .int .u8 0, .int .u8 0, .int .u8 0, .int .u8 0, .int .u8 0, .int .u8 0]
theorem holds_zeros (w : World) (b : Nat) (h : w.heap[b]? = some (.cells zeros32 281 (0, 0))) : Holds encB w b 0 (Array.replicate 16 0) := by
  intro j hj
  have hj' : j < 16 := by simpa using hj
  refine ⟨?_, Lib.frozen_of_heap h _⟩
  rw [Lib.cell_of_heap h]
  have e : zeros32 = Array.replicate 32 (.int .u8 0) := rfl
  rw [e, Array.getElem?_replicate, if_pos (by omega)]
  simp [encB, hj']
theorem own_later {w w' : World} {base e size n cap g : Nat} {xs : List Value} (h : w.ownsRow base e size (.slice (some ⟨g, 0, none⟩) n cap) n xs) (hb : Below w.heap.size w w') : w'.ownsRow base e size (.slice (some ⟨g, 0, none⟩) n cap) n xs :=
  h.kept (row := none) ⟨hb.os, hb.tape, hb.output, hb.size, fun k hk _ => hb.block k hk⟩ (.inr (by simp [Value.ownBlock]))
theorem ftoa15e (w0 : World) (g : Nat) (hown : w0.ownsRow g 5 1 (.slice (some ⟨g, 0, none⟩) 0 24) 0 []) (hg : 15 < g) (henv : Env w0) :
    Calls Tryz.prog 187 #[.slice (some ⟨g, 0, none⟩) 0 24, .float .f64 4609434218613702656, .int .u8 101, .int .i64 (-1)] w0 fun e w' => e = .returned (.slice (some ⟨g, 0, none⟩) 7 24) ∧ w'.ownsRow g 5 1 (.slice (some ⟨g, 0, none⟩) 7 24) 7 (Lib.byteCells [49, 46, 53, 101, 43, 48, 48]) ∧ Below g w0 w' := by
  have h65 := bits65
  have b1 : bits BinOp.and IntKind.u64 4609434218613702656 4503599627370495 = 2251799813685248 := by kernel_rfl
  have b2 : bits BinOp.or IntKind.u64 2251799813685248 4503599627370496 = 6755399441055744 := by kernel_rfl
  have mm4 : max (1 : Int) 0 = 1 := by decide
  have b3 : bits BinOp.and IntKind.i64 1023 2047 = 1023 := by kernel_rfl
  have hgs := (hown.lt g rfl).2
  have hbA := fun n => (below_drewN (Below.refl w0.heap.size w0) n).alloc (Nat.le_refl _) (.cells zeros32 281)
  have henvA := fun n => henv.later (hbA n) (by omega)
  have hzA : ∀ n, ((w0.drewN n).alloc (.cells zeros32 281)).heap[w0.heap.size]? = some (.cells zeros32 281 (0, 0)) := fun n => heap_alloc_new (w0.drewN n) _
  have HBA := Lib.hid hbA
  have HEA := Lib.hid henvA
  have HZA := Lib.hid hzA
  have HG := Lib.hid hgs
  clear hbA henvA hzA hgs
  have HO := Lib.hid hown
  have HE := Lib.hid henv
  clear hown henv
  go_enter Tryz.func187, Tryz.ntmps187
  go_wp2
  go_quiet (fail)
  go_wp2_with fail
  refine (len15 _).mono ?_
  rintro e w1 ⟨rfl, rfl⟩
  go_wp2_with fail
  refine (short15 _ (HEA.out nq).pow (by have := HG.out; simp; omega)).mono ?_
  rintro e w2 ⟨rfl, hb2⟩
  have HB2 := Lib.hid ((HBA.out nq).trans (hb2.mono (by simp)))
  have HZ2 := Lib.hid ((hb2.block w0.heap.size (by simp)).trans (HZA.out nq))
  have HB2S := Lib.hid hb2
  have HE2 := Lib.hid ((HEA.out nq).later hb2 (by have := HG.out; simp; omega))
  have HG8 := Lib.hid (show 15 < ((w0.drewN nq).alloc (.cells zeros32 281)).heap.size by have := HG.out; simp; omega)
  have HH := Lib.hid (holds_zeros w2.drew w0.heap.size HZ2.out)
  clear hb2
  go_wp2_with fail
  go_region_law (first
    | (go_simp; go_at_call 111; refine (num15 _ (HE2.out.drew)).mono ?_; rintro e w' ⟨rfl, rfl⟩)
    | (go_simp; go_at_call 224; refine (setDigits15 _ _ HH.out).mono ?_; rintro e w3 ⟨rfl, hc, hb3⟩))
  have hb4 : Below w0.heap.size w0 w3 := HB2.out.trans (show Below w0.heap.size w2 w3 from ⟨hb3.os, hb3.tape, hb3.output, hb3.size, hb3.block⟩)
  have hsz : w0.heap.size < w3.heap.size := by have h1 := HB2S.out.size; have h2 := hb3.size; simp at h1 h2; omega
  have HST := Lib.hid (show St w0 g w0.heap.size [] w3 from ⟨own_later HO.out hb4, hc.1, hc.2, hb4.mono (Nat.le_of_lt HG.out), HG.out, hsz⟩)
  clear hc hb3 hb4 hsz
  go_wp2_with (go_at_call 222; go_must (refine (efg15e _ _ _ _ HST.out).mono ?_); rintro e w4 ⟨rfl, h4⟩)
  go_ret
  exact ⟨rfl, h4.own, h4.bel⟩
theorem ftoa15f (w0 : World) (g : Nat) (hown : w0.ownsRow g 5 1 (.slice (some ⟨g, 0, none⟩) 0 24) 0 []) (hg : 15 < g) (henv : Env w0) :
    Calls Tryz.prog 187 #[.slice (some ⟨g, 0, none⟩) 0 24, .float .f64 4609434218613702656, .int .u8 102, .int .i64 (-1)] w0 fun e w' => e = .returned (.slice (some ⟨g, 0, none⟩) 3 24) ∧ w'.ownsRow g 5 1 (.slice (some ⟨g, 0, none⟩) 3 24) 3 (Lib.byteCells [49, 46, 53]) ∧ Below g w0 w' := by
  have h65 := bits65
  have b1 : bits BinOp.and IntKind.u64 4609434218613702656 4503599627370495 = 2251799813685248 := by kernel_rfl
  have b2 : bits BinOp.or IntKind.u64 2251799813685248 4503599627370496 = 6755399441055744 := by kernel_rfl
  have mm4 : max (1 : Int) 0 = 1 := by decide
  have b3 : bits BinOp.and IntKind.i64 1023 2047 = 1023 := by kernel_rfl
  have hgs := (hown.lt g rfl).2
  have hbA := fun n => (below_drewN (Below.refl w0.heap.size w0) n).alloc (Nat.le_refl _) (.cells zeros32 281)
  have henvA := fun n => henv.later (hbA n) (by omega)
  have hzA : ∀ n, ((w0.drewN n).alloc (.cells zeros32 281)).heap[w0.heap.size]? = some (.cells zeros32 281 (0, 0)) := fun n => heap_alloc_new (w0.drewN n) _
  have HBA := Lib.hid hbA
  have HEA := Lib.hid henvA
  have HZA := Lib.hid hzA
  have HG := Lib.hid hgs
  clear hbA henvA hzA hgs
  have HO := Lib.hid hown
  have HE := Lib.hid henv
  clear hown henv
  go_enter Tryz.func187, Tryz.ntmps187
  go_wp2
  go_quiet (fail)
  go_wp2_with fail
  refine (len15 _).mono ?_
  rintro e w1 ⟨rfl, rfl⟩
  go_wp2_with fail
  refine (short15 _ (HEA.out nq).pow (by have := HG.out; simp; omega)).mono ?_
  rintro e w2 ⟨rfl, hb2⟩
  have HB2 := Lib.hid ((HBA.out nq).trans (hb2.mono (by simp)))
  have HZ2 := Lib.hid ((hb2.block w0.heap.size (by simp)).trans (HZA.out nq))
  have HB2S := Lib.hid hb2
  have HE2 := Lib.hid ((HEA.out nq).later hb2 (by have := HG.out; simp; omega))
  have HG8 := Lib.hid (show 15 < ((w0.drewN nq).alloc (.cells zeros32 281)).heap.size by have := HG.out; simp; omega)
  have HH := Lib.hid (holds_zeros w2.drew w0.heap.size HZ2.out)
  clear hb2
  go_wp2_with fail
  go_region_law (first
    | (go_simp; go_at_call 111; refine (num15 _ (HE2.out.drew)).mono ?_; rintro e w' ⟨rfl, rfl⟩)
    | (go_simp; go_at_call 224; refine (setDigits15 _ _ HH.out).mono ?_; rintro e w3 ⟨rfl, hc, hb3⟩))
  have hb4 : Below w0.heap.size w0 w3 := HB2.out.trans (show Below w0.heap.size w2 w3 from ⟨hb3.os, hb3.tape, hb3.output, hb3.size, hb3.block⟩)
  have hsz : w0.heap.size < w3.heap.size := by have h1 := HB2S.out.size; have h2 := hb3.size; simp at h1 h2; omega
  have HST := Lib.hid (show St w0 g w0.heap.size [] w3 from ⟨own_later HO.out hb4, hc.1, hc.2, hb4.mono (Nat.le_of_lt HG.out), HG.out, hsz⟩)
  clear hc hb3 hb4 hsz
  go_wp2_with (go_at_call 222; go_must (refine (efg15f _ _ _ _ HST.out).mono ?_); rintro e w4 ⟨rfl, h4⟩)
  go_ret
  exact ⟨rfl, h4.own, h4.bel⟩
end Go.Proofs.YtagiddbfhlokcaaGreatDoor.One
/- FormatFloat at 1.5. Conditions: the cells of the two tables of powers. -/
namespace Go.Proofs.YtagiddbfhlokcaaGreatDoor.One
open Go.RowKit
set_option maxRecDepth 100000
theorem str_of_own {w : World} {base : Nat} {v : Value} (l : List UInt8) (h : w.ownsRow base 5 1 v l.length (Lib.byteCells l)) : (convert 59 9 v).run Tryz.prog w = .ok (.string ⟨l.toArray⟩) w := by
  rcases h.2 with ⟨rfl, h0⟩ | ⟨g, cap, cur, rfl, _⟩
  · have : l = [] := List.length_eq_zero_iff.1 h0
    subst this
    rw [run_convert_bytes_string w 59 9 5 none 0 0 Tryz.underlying59 Tryz.underlying5 Tryz.underlying9]
    rfl
  · refine run_convert_bytes_back w 59 9 5 ⟨g, 0, none⟩ cap l Tryz.underlying59 Tryz.underlying5 Tryz.underlying9 fun j hj => ?_
    have := h.cellAt j (by omega)
    have e : (Addr.add ⟨g, 0, none⟩ j) = ⟨g, j, none⟩ := by unfold Addr.add; split <;> simp_all
    rw [e, this]
    simp [Lib.byteCells, hj]

theorem iform15e (w0 : World) (henv : Env w0) (h8 : 15 < w0.heap.size) : Calls Tryz.prog 150 #[.float .f64 4609434218613702656, .int .u8 101, .int .i64 (-1), .int .i64 64] w0 fun e w' => e = .returned (.string ⟨#[49, 46, 53, 101, 43, 48, 48]⟩) ∧ Below w0.heap.size w0 w' := by
  obtain ⟨i0, hi, hz0, hz1, hz2⟩ := info_parts info5
  have HI := Lib.hid hi
  have HZ0 := Lib.hid hz0
  have HZ1 := Lib.hid hz1
  have HZ2 := Lib.hid hz2
  have HE := Lib.hid henv
  have H8 := Lib.hid h8
  clear hi hz0 hz1 hz2 henv h8
  go_enter Tryz.func150, Tryz.ntmps150
  go_wp2_with (first
    | (refine wpList_make_own w0 rfl _ _ 59 rfl w0.heap.size 5 i0 (.int .u8 0) 1 Tryz.underlying59 HI.out HZ0.out HZ1.out .i64 .i64 24 24 rfl rfl rfl (by rw [HZ2.out]; omega) (by unfold maxLen; omega) (Nat.le_refl _) ?_; intro w1 hown hgrow; have HO1 := Lib.hid hown; have HB1 := Lib.hid ((Below.refl w0.heap.size w0).grown hgrow (Nat.le_refl _) (fun j hj => by cases hj)); have HE1 := Lib.hid (HE.out.later HB1.out H8.out); clear hown hgrow)
    | (go_at_call 187; refine (ftoa15e _ w0.heap.size HO1.out H8.out HE1.out).mono ?_; rintro e w' ⟨rfl, ho, hb⟩; have hcv := str_of_own [49, 46, 53, 101, 43, 48, 48] ho; have HB2 := Lib.hid hb; clear ho hb))
  go_ret
  exact ⟨rfl, HB1.out.trans HB2.out⟩
theorem form15e (w0 : World) (henv : Env w0) (h8 : 15 < w0.heap.size) : Calls Tryz.prog 101 #[.float .f64 4609434218613702656, .int .u8 101, .int .i64 (-1), .int .i64 64] w0 fun e w' => e = .returned (.string ⟨#[49, 46, 53, 101, 43, 48, 48]⟩) ∧ Below w0.heap.size w0 w' := by
  go_enter Tryz.func101, Tryz.ntmps101
  go_wp2_with (go_at_call 150; refine (iform15e _ henv h8).mono ?_; rintro e w' ⟨rfl, hb⟩)
  go_ret
  exact ⟨rfl, hb⟩
theorem iform15f (w0 : World) (henv : Env w0) (h8 : 15 < w0.heap.size) : Calls Tryz.prog 150 #[.float .f64 4609434218613702656, .int .u8 102, .int .i64 (-1), .int .i64 64] w0 fun e w' => e = .returned (.string ⟨#[49, 46, 53]⟩) ∧ Below w0.heap.size w0 w' := by
  obtain ⟨i0, hi, hz0, hz1, hz2⟩ := info_parts info5
  have HI := Lib.hid hi
  have HZ0 := Lib.hid hz0
  have HZ1 := Lib.hid hz1
  have HZ2 := Lib.hid hz2
  have HE := Lib.hid henv
  have H8 := Lib.hid h8
  clear hi hz0 hz1 hz2 henv h8
  go_enter Tryz.func150, Tryz.ntmps150
  go_wp2_with (first
    | (refine wpList_make_own w0 rfl _ _ 59 rfl w0.heap.size 5 i0 (.int .u8 0) 1 Tryz.underlying59 HI.out HZ0.out HZ1.out .i64 .i64 24 24 rfl rfl rfl (by rw [HZ2.out]; omega) (by unfold maxLen; omega) (Nat.le_refl _) ?_; intro w1 hown hgrow; have HO1 := Lib.hid hown; have HB1 := Lib.hid ((Below.refl w0.heap.size w0).grown hgrow (Nat.le_refl _) (fun j hj => by cases hj)); have HE1 := Lib.hid (HE.out.later HB1.out H8.out); clear hown hgrow)
    | (go_at_call 187; refine (ftoa15f _ w0.heap.size HO1.out H8.out HE1.out).mono ?_; rintro e w' ⟨rfl, ho, hb⟩; have hcv := str_of_own [49, 46, 53] ho; have HB2 := Lib.hid hb; clear ho hb))
  go_ret
  exact ⟨rfl, HB1.out.trans HB2.out⟩
theorem form15f (w0 : World) (henv : Env w0) (h8 : 15 < w0.heap.size) : Calls Tryz.prog 101 #[.float .f64 4609434218613702656, .int .u8 102, .int .i64 (-1), .int .i64 64] w0 fun e w' => e = .returned (.string ⟨#[49, 46, 53]⟩) ∧ Below w0.heap.size w0 w' := by
  go_enter Tryz.func101, Tryz.ntmps101
  go_wp2_with (go_at_call 150; refine (iform15f _ henv h8).mono ?_; rintro e w' ⟨rfl, hb⟩)
  go_ret
  exact ⟨rfl, hb⟩
end Go.Proofs.YtagiddbfhlokcaaGreatDoor.One
