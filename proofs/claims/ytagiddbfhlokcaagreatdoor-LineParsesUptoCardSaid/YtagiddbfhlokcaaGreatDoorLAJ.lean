/- Several texts of this proof, laid together. Conditions: as each says. -/
import Derived.Test.YtagiddbfhlokcaaGreatDoorLAI
import Derived.OwnWalk
import Derived.Lib.Bytes
import Derived.Deep.RegionLaw
import Derived.Test.YtagiddbfhlokcaaGreatDoorLAA
import Derived.Lib.AtoiErrMem
import Derived.Test.YtagiddbfhlokcaaGreatDoorLAE
import Derived.Test.YtagiddbfhlokcaaGreatDoorLAF
import Derived.WalkKit
import Derived.ProofKit
import Derived.Below
/- fmtEFG at 1.5's digits. No condition. -/
namespace Go.Proofs.YtagiddbfhlokcaaGreatDoor.One
open Go.RowKit
set_option maxRecDepth 100000
theorem info5 : (Tryz.prog.info? 5).map (fun i => (i.zero, i.size, i.bytes)) = some (some (.int .u8 0), 1, 1) := by kernel_rfl
structure St (w0 : World) (g b : Nat) (l : List UInt8) (w : World) : Prop where
  own : w.ownsRow g 5 1 (.slice (some ⟨g, 0, none⟩) l.length 24) l.length (Lib.byteCells l)
  c0 : w.cell? ⟨b, 0, none⟩ = some (.int .u8 49)
  c1 : w.cell? ⟨b, 1, none⟩ = some (.int .u8 53)
  bel : Below g w0 w
  gb : g < b
  bw : b < w.heap.size
theorem byteCells_app (l m : List UInt8) : Lib.byteCells (l ++ m) = Lib.byteCells l ++ Lib.byteCells m := by simp [Lib.byteCells]
theorem St.app1 {w0 w w2 : World} {g b : Nat} {l : List UInt8} (h : St w0 g b l w) (m : List UInt8) (hown : w2.ownsRow g 5 1 (.slice (some ⟨g, 0, none⟩) (l.length + m.length) 24) (l.length + m.length) (Lib.byteCells l ++ Lib.byteCells m)) (hg : w.grownBy w2 (some g)) : St w0 g b (l ++ m) w2 := by
  have hbk : w2.heap[b]? = w.heap[b]? := hg.block b h.bw (fun e => by have := h.gb; cases e; omega)
  refine ⟨by rw [List.length_append, byteCells_app]; exact hown, ?_, ?_, ?_, h.gb, Nat.lt_of_lt_of_le h.bw hg.size⟩
  · rw [World.cell?_of_block hbk]; exact h.c0
  · rw [World.cell?_of_block hbk]; exact h.c1
  · exact h.bel.grown hg (by have := h.gb; have := h.bw; omega) (fun j hj => by cases hj; exact Nat.le_refl _)
theorem St.alloc {w0 w : World} {g b : Nat} {l : List UInt8} (h : St w0 g b l w) (o : Obj) : St w0 g b l (w.alloc o) := by
  have hb := (Below.refl w.heap.size w).alloc (Nat.le_refl _) o
  refine ⟨World.ownsRow.alloc h.own _, ?_, ?_, ?_, h.gb, Nat.lt_of_lt_of_le h.bw hb.size⟩
  · rw [hb.cell (p := ⟨b, 0, none⟩) h.bw]; exact h.c0
  · rw [hb.cell (p := ⟨b, 1, none⟩) h.bw]; exact h.c1
  · exact h.bel.alloc (by have := h.gb; have := h.bw; omega) o
theorem St.app {w0 w w2 : World} {g b : Nat} {l : List UInt8} {o : Obj} (h : St w0 g b l w) (m : List UInt8) (hown : w2.ownsRow g 5 1 (.slice (some ⟨g, 0, none⟩) (l.length + m.length) 24) (l.length + m.length) (Lib.byteCells l ++ Lib.byteCells m)) (hg : (w.alloc o).grownBy w2 (some g)) : St w0 g b (l ++ m) w2 := (h.alloc o).app1 m hown hg
theorem news1 {w : World} {b : Nat} (h : w.cell? ⟨b, 1, none⟩ = some (.int .u8 53)) : ∀ j u, [Value.int .u8 53][j]? = some u → w.cell? (Addr.add ⟨b, 1, none⟩ j) = some u := by
  intro j u hj
  match j, hj with
  | 0, hj => simp at hj; subst hj; simpa [Addr.add] using h

theorem efg15e (w0 w1 : World) (g b : Nat) (h : St w0 g b [] w1) :
    Calls Tryz.prog 222 #[.slice (some ⟨g, 0, none⟩) 0 24, .bool false, .slice (some ⟨b, 0, none⟩) 32 32, .int .i64 1, .int .i64 2, .int .i64 1, .int .u8 101, .bool true] w1 fun e w' => e = .returned (.slice (some ⟨g, 0, none⟩) 7 24) ∧ St w0 g b [49, 46, 53, 101, 43, 48, 48] w' := by
  obtain ⟨i0, hi, hz0, hz1, hz2⟩ := info_parts info5
  have HI := Lib.hid hi
  have HZ1 := Lib.hid hz1
  have HS0 := Lib.hid h
  clear hi hz0 hz1 hz2 h
  have k0 := HS0.out.c0
  go_enter Tryz.func222, Tryz.ntmps222
  go_wp2_with (first
    | (at_builtin; (refine wpList_append_fits _ rfl (.tmp 87) (.tmp 89) 59 rfl g 5 i0 1 Tryz.underlying59 HI.out HZ1.out g 0 24 (Lib.byteCells []) rfl (World.ownsRow.alloc HS0.out.own _) ⟨w1.heap.size, 0, none⟩ 1 1 [.int .u8 49] rfl rfl (World.news_of_block (cs := #[.int .u8 49]) (t := 5) (fr := (0, 0)) (heap_alloc_new w1 _)) (by simp [Value.oneCell']) (by omega) ?_); intro w2 hown hgrow; have HS1 := Lib.hid (HS0.out.app [49] hown hgrow); clear hown hgrow)
    | (at_builtin; (refine wpList_append_fits _ rfl (.tmp 93) (.tmp 94) 59 rfl g 5 i0 1 Tryz.underlying59 HI.out HZ1.out g 1 24 (Lib.byteCells [49]) rfl (World.ownsRow.alloc HS1.out.own _) ⟨w2.heap.size, 0, none⟩ 1 1 [.int .u8 46] rfl rfl (World.news_of_block (cs := #[.int .u8 46]) (t := 5) (fr := (0, 0)) (heap_alloc_new w2 _)) (by simp [Value.oneCell']) (by omega) ?_); intro w3 hown hgrow; have HS2 := Lib.hid (HS1.out.app [46] hown hgrow); clear hown hgrow)
    | (at_builtin; go_must (refine wpList_append_fits _ rfl (.tmp 103) (.tmp 107) 59 rfl g 5 i0 1 Tryz.underlying59 HI.out HZ1.out g 2 24 (Lib.byteCells [49, 46]) rfl HS2.out.own ⟨b, 1, none⟩ 1 31 [.int .u8 53] rfl rfl (news1 HS2.out.c1) (by simp [Value.oneCell']) (by omega) ?_); intro w4 hown hgrow; have HS3 := Lib.hid (HS2.out.app1 [53] hown hgrow); clear hown hgrow)
    | fail)
  go_loopw [0, 114] (fun v i wr => v = .slice (some ⟨g, 0, none⟩) 3 24 ∧ i = .int .i64 0 ∧ wr = w4) (fun _ _ _ => 0)
  case atStart => exact ⟨rfl, rfl, rfl⟩
  case round =>
    obtain ⟨rfl, rfl, hw⟩ := hrel
    obtain rfl := hw.symm
    go_wp2_with (first
      | (at_builtin; (refine wpList_append_fits _ rfl (.tmp 120) (.tmp 122) 59 rfl g 5 i0 1 Tryz.underlying59 HI.out HZ1.out g 3 24 (Lib.byteCells [49, 46, 53]) rfl (World.ownsRow.alloc HS3.out.own _) ⟨w4.heap.size, 0, none⟩ 1 1 [.int .u8 101] rfl rfl (World.news_of_block (cs := #[.int .u8 101]) (t := 5) (fr := (0, 0)) (heap_alloc_new w4 _)) (by simp [Value.oneCell']) (by omega) ?_); intro w5 hown hgrow; have HS4 := Lib.hid (HS3.out.app [101] hown hgrow); clear hown hgrow)
      | (at_builtin; (refine wpList_append_fits _ rfl (.tmp 132) (.tmp 134) 59 rfl g 5 i0 1 Tryz.underlying59 HI.out HZ1.out g 4 24 (Lib.byteCells [49, 46, 53, 101]) rfl (World.ownsRow.alloc HS4.out.own _) ⟨w5.heap.size, 0, none⟩ 1 1 [.int .u8 43] rfl rfl (World.news_of_block (cs := #[.int .u8 43]) (t := 5) (fr := (0, 0)) (heap_alloc_new w5 _)) (by simp [Value.oneCell']) (by omega) ?_); intro w6 hown hgrow; have HS5 := Lib.hid (HS4.out.app [43] hown hgrow); clear hown hgrow)
      | (at_builtin; go_must (refine wpList_append_fits _ rfl (.tmp 155) (.tmp 159) 59 rfl g 5 i0 1 Tryz.underlying59 HI.out HZ1.out g 5 24 (Lib.byteCells [49, 46, 53, 101, 43]) rfl (World.ownsRow.alloc HS5.out.own _) ⟨w6.heap.size, 0, none⟩ 2 2 [.int .u8 48, .int .u8 48] rfl rfl (World.news_of_block (cs := #[.int .u8 48, .int .u8 48]) (t := 5) (fr := (0, 0)) (heap_alloc_new w6 _)) (by simp [Value.oneCell']) (by omega) ?_); intro w7 hown hgrow; have HS6 := Lib.hid (HS5.out.app [48, 48] hown hgrow); clear hown hgrow)
      | fail)
    go_ret
    exact ⟨rfl, HS6.out⟩
end Go.Proofs.YtagiddbfhlokcaaGreatDoor.One
/- fmtEFG at 1.5's digits, by 'f'. No condition. -/
namespace Go.Proofs.YtagiddbfhlokcaaGreatDoor.One
open Go.RowKit
set_option maxRecDepth 100000
theorem efg15f (w0 w1 : World) (g b : Nat) (h : St w0 g b [] w1) :
    Calls Tryz.prog 222 #[.slice (some ⟨g, 0, none⟩) 0 24, .bool false, .slice (some ⟨b, 0, none⟩) 32 32, .int .i64 1, .int .i64 2, .int .i64 1, .int .u8 102, .bool true] w1 fun e w' => e = .returned (.slice (some ⟨g, 0, none⟩) 3 24) ∧ St w0 g b [49, 46, 53] w' := by
  obtain ⟨i0, hi, hz0, hz1, hz2⟩ := info_parts info5
  have HI := Lib.hid hi
  have HZ1 := Lib.hid hz1
  have HS0 := Lib.hid h
  clear hi hz0 hz1 hz2 h
  have k0 := HS0.out.c0
  have mm0 : max (0 : Int) (-1) = 0 := by decide
  have mm1 : min (1 : Int) 0 = 0 := by decide
  have mm2 : max (0 : Int) 1 = 1 := by decide
  have mm3 : min (1 : Int) 1 = 1 := by decide
  go_enter Tryz.func222, Tryz.ntmps222
  go_wp2_with fail
  go_loopw [0, 25, 191] (fun v _ i wr => (v = .slice (some ⟨g, 0, none⟩) 0 24 ∧ i = .int .i64 0 ∧ wr = w1) ∨ (v = .slice (some ⟨g, 0, none⟩) 1 24 ∧ i = .int .i64 1 ∧ St w0 g b [49] wr)) (fun _ _ i _ => 1 - (intOf i).toNat)
  case atStart => exact .inl ⟨rfl, rfl, rfl⟩
  case round =>
    rcases hrel with ⟨rfl, rfl, hw⟩ | ⟨rfl, rfl, h1⟩
    · obtain rfl := hw.symm
      go_wp2_with ((at_builtin; go_must (refine wpList_append_fits _ rfl (.tmp 195) (.tmp 197) 59 rfl g 5 i0 1 Tryz.underlying59 HI.out HZ1.out g 0 24 (Lib.byteCells []) rfl (World.ownsRow.alloc HS0.out.own _) ⟨w1.heap.size, 0, none⟩ 1 1 [.int .u8 49] rfl rfl (World.news_of_block (cs := #[.int .u8 49]) (t := 5) (fr := (0, 0)) (heap_alloc_new w1 _)) (by simp [Value.oneCell']) (by omega) ?_); intro w2 hown hgrow; have HS1 := Lib.hid (HS0.out.app [49] hown hgrow); clear hown hgrow))
      go_roundw
      case rel => exact .inr ⟨rfl, by go_num, HS1.out⟩
      case measure => simp [intOf]
    · obtain ⟨wa, hwa⟩ : ∃ wa, wa = wr := ⟨_, rfl⟩
      subst hwa
      have HS1 := Lib.hid h1
      clear h1
      go_wp2_with fail
      go_loopw [0, 203] (fun v i wr => v = .slice (some ⟨g, 0, none⟩) 1 24 ∧ i = .int .i64 0 ∧ wr = wa) (fun _ _ _ => 0)
      case atStart => exact ⟨rfl, rfl, rfl⟩
      case round =>
        obtain ⟨rfl, rfl, hw⟩ := hrel
        obtain rfl := hw.symm
        go_wp2_with ((at_builtin; go_must (refine wpList_append_fits _ rfl (.tmp 214) (.tmp 215) 59 rfl g 5 i0 1 Tryz.underlying59 HI.out HZ1.out g 1 24 (Lib.byteCells [49]) rfl (World.ownsRow.alloc HS1.out.own _) ⟨wa.heap.size, 0, none⟩ 1 1 [.int .u8 46] rfl rfl (World.news_of_block (cs := #[.int .u8 46]) (t := 5) (fr := (0, 0)) (heap_alloc_new wa _)) (by simp [Value.oneCell']) (by omega) ?_); intro w3 hown hgrow; have HS2 := Lib.hid (HS1.out.app [46] hown hgrow); clear hown hgrow))
        go_loopw [0, 240] (fun v i wr => v = .slice (some ⟨g, 0, none⟩) 2 24 ∧ i = .int .i64 0 ∧ wr = w3) (fun _ _ _ => 0)
        case atStart => exact ⟨rfl, rfl, rfl⟩
        case round =>
          obtain ⟨rfl, rfl, hw⟩ := hrel
          obtain rfl := hw.symm
          go_wp2_with fail
          go_loopw [0, 30, 247] (fun v _ i wr => (v = .slice (some ⟨g, 0, none⟩) 2 24 ∧ i = .int .i64 0 ∧ wr = w3) ∨ (v = .slice (some ⟨g, 0, none⟩) 3 24 ∧ i = .int .i64 1 ∧ St w0 g b [49, 46, 53] wr)) (fun _ _ i _ => 1 - (intOf i).toNat)
          case atStart => exact .inl ⟨rfl, rfl, rfl⟩
          case round =>
            rcases hrel with ⟨rfl, rfl, hw⟩ | ⟨rfl, rfl, h1⟩
            · obtain rfl := hw.symm
              have k1 := HS2.out.c1
              go_wp2_with ((at_builtin; go_must (refine wpList_append_fits _ rfl (.tmp 250) (.tmp 257) 59 rfl g 5 i0 1 Tryz.underlying59 HI.out HZ1.out g 2 24 (Lib.byteCells [49, 46]) rfl (World.ownsRow.alloc HS2.out.own _) ⟨w3.heap.size, 0, none⟩ 1 1 [.int .u8 53] rfl rfl (World.news_of_block (cs := #[.int .u8 53]) (t := 5) (fr := (0, 0)) (heap_alloc_new w3 _)) (by simp [Value.oneCell']) (by omega) ?_); intro w4 hown hgrow; have HS3 := Lib.hid (HS2.out.app [53] hown hgrow); clear hown hgrow))
              go_roundw
              case rel => exact .inr ⟨rfl, by go_num, HS3.out⟩
              case measure => simp [intOf]
            · obtain ⟨wb, hwb⟩ : ∃ wb, wb = wr := ⟨_, rfl⟩
              subst hwb
              have HS3 := Lib.hid h1
              clear h1
              go_wp2_with fail
              go_loopw [0, 261] (fun v i wr => v = .slice (some ⟨g, 0, none⟩) 3 24 ∧ i = .int .i64 0 ∧ wr = wb) (fun _ _ _ => 0)
              case atStart => exact ⟨rfl, rfl, rfl⟩
              case round =>
                obtain ⟨rfl, rfl, hw⟩ := hrel
                obtain rfl := hw.symm
                go_wp2_with fail
                go_ret
                exact ⟨rfl, HS3.out⟩
end Go.Proofs.YtagiddbfhlokcaaGreatDoor.One
/- ftoa64 at 1.5. Conditions: the cells of the two tables of powers. -/
namespace Go.Proofs.YtagiddbfhlokcaaGreatDoor.One
open Go.RowKit Go.Sort
set_option maxRecDepth 100000
structure Env (w : World) : Prop where
  pow : Pow w
  tab : Lib.TabIs Tryz.prog w "internal/strconv.uint64pow10" .u64 Lib.pow10Tab
theorem Env.later {w w' : World} {B : Nat} (h : Env w) (hb : Below B w w') (h8 : 15 < B) : Env w' := by
  refine ⟨⟨(hb.cell (p := ⟨15, 728, none⟩) h8).trans h.pow.1, (hb.cell (p := ⟨15, 729, none⟩) h8).trans h.pow.2⟩, ?_⟩
  have ht := h.tab
  have hg : Tryz.prog.globalNamed "internal/strconv.uint64pow10" = some 1 := by kernel_rfl
  unfold Lib.TabIs World.var? at ht ⊢
  rw [hg] at ht ⊢
  simp only [Option.bind_some] at ht ⊢
  rw [hb.block 1 (by omega)]
  exact ht
theorem Env.drew {w : World} (h : Env w) : Env w.drew := ⟨⟨h.pow.1, h.pow.2⟩, h.tab⟩
theorem bits65 (w : World) : (callFunc 219 #[.float .f64 4609434218613702656]).run Tryz.prog w = .ok (.value (.int .u64 4609434218613702656)) w := by
  rw [run_callFunc_extern (e := Extern.MathFloatBits.float64bits) Tryz.func219 (by kernel_rfl) (by kernel_rfl) (by kernel_rfl) (by kernel_rfl)]
  rfl
theorem len15 (w : World) : Calls Tryz.prog 132 #[.int .u64 6755399441055744] w fun e w' => e = .returned (.int .i64 53) ∧ w = w' := by
  refine (Tryz.bits_Len64 6755399441055744 w (by omega) (by omega)).mono ?_
  rintro e w' ⟨rfl, h⟩
  exact ⟨by rw [show Lib.bitLen (Int.toNat 6755399441055744) = 53 by decide +kernel]; rfl, h.symm⟩
theorem num15 (w : World) (h : Env w) : Calls Tryz.prog 111 #[.int .u64 1500000000000000] w fun e w' => e = .returned (.int .i64 16) ∧ w = w' := by
  refine (Tryz.internal_strconv_numDigits 1500000000000000 (by omega) (by omega) w h.tab).mono ?_
  rintro e w' ⟨rfl, h⟩
  exact ⟨by rw [show Lib.nDigits 1500000000000000 = 16 by decide +kernel]; rfl, h.symm⟩
def zeros32 : Array Value := #[.int .u8 0, .int .u8 0, .int .u8 0, .int .u8 0, .int .u8 0, .int .u8 0, .int .u8 0, .int .u8 0, .int .u8 0, .int .u8 0, .int .u8 0, .int .u8 0, .int .u8 0, .int .u8 0, .int .u8 0, .int .u8 0, .int .u8 0, .int .u8 0, .int .u8 0, .int .u8 0, .int .u8 0, .int .u8 0, .int .u8 0, .int .u8 0, .int .u8 0, .int .u8 0, .int .u8 0, .int .u8 0, .int .u8 0, .int .u8 0, .int .u8 0, .int .u8 0]
theorem holds_zeros (w : World) (b : Nat) (h : w.heap[b]? = some (.cells zeros32 281 (0, 0))) : Holds encB w b 0 (Array.replicate 16 0) := by
  intro j hj
  have hj' : j < 16 := by simpa using hj
  refine ⟨?_, Lib.frozen_of_heap h _⟩
  rw [Lib.cell_of_heap h]
  have e : zeros32 = Array.replicate 32 (.int .u8 0) := rfl
  rw [e, Array.getElem?_replicate, if_pos (by omega)]
  simp [encB, hj']
theorem own_later {w w' : World} {base e size n cap g : Nat} {xs : List Value} (h : w.ownsRow base e size (.slice (some ⟨g, 0, none⟩) n cap) n xs) (hb : Below w.heap.size w w') : w'.ownsRow base e size (.slice (some ⟨g, 0, none⟩) n cap) n xs :=
  h.kept (row := none) ⟨hb.os, hb.tape, hb.output, hb.size, fun k hk _ => hb.block k hk⟩ (.inr (by simp [Value.ownBlock]))
theorem ftoa15e (w0 : World) (g : Nat) (hown : w0.ownsRow g 5 1 (.slice (some ⟨g, 0, none⟩) 0 24) 0 []) (hg : 15 < g) (henv : Env w0) :
    Calls Tryz.prog 187 #[.slice (some ⟨g, 0, none⟩) 0 24, .float .f64 4609434218613702656, .int .u8 101, .int .i64 (-1)] w0 fun e w' => e = .returned (.slice (some ⟨g, 0, none⟩) 7 24) ∧ w'.ownsRow g 5 1 (.slice (some ⟨g, 0, none⟩) 7 24) 7 (Lib.byteCells [49, 46, 53, 101, 43, 48, 48]) ∧ Below g w0 w' := by
  have h65 := bits65
  have b1 : bits BinOp.and IntKind.u64 4609434218613702656 4503599627370495 = 2251799813685248 := by kernel_rfl
  have b2 : bits BinOp.or IntKind.u64 2251799813685248 4503599627370496 = 6755399441055744 := by kernel_rfl
  have mm4 : max (1 : Int) 0 = 1 := by decide
  have b3 : bits BinOp.and IntKind.i64 1023 2047 = 1023 := by kernel_rfl
  have hgs := (hown.lt g rfl).2
  have hbA := fun n => (below_drewN (Below.refl w0.heap.size w0) n).alloc (Nat.le_refl _) (.cells zeros32 281)
  have henvA := fun n => henv.later (hbA n) (by omega)
  have hzA : ∀ n, ((w0.drewN n).alloc (.cells zeros32 281)).heap[w0.heap.size]? = some (.cells zeros32 281 (0, 0)) := fun n => heap_alloc_new (w0.drewN n) _
  have HBA := Lib.hid hbA
  have HEA := Lib.hid henvA
  have HZA := Lib.hid hzA
  have HG := Lib.hid hgs
  clear hbA henvA hzA hgs
  have HO := Lib.hid hown
  have HE := Lib.hid henv
  clear hown henv
  go_enter Tryz.func187, Tryz.ntmps187
  go_wp2
  go_quiet (fail)
  go_wp2_with fail
  refine (len15 _).mono ?_
  rintro e w1 ⟨rfl, rfl⟩
  go_wp2_with fail
  refine (short15 _ (HEA.out nq).pow (by have := HG.out; simp; omega)).mono ?_
  rintro e w2 ⟨rfl, hb2⟩
  have HB2 := Lib.hid ((HBA.out nq).trans (hb2.mono (by simp)))
  have HZ2 := Lib.hid ((hb2.block w0.heap.size (by simp)).trans (HZA.out nq))
  have HB2S := Lib.hid hb2
  have HE2 := Lib.hid ((HEA.out nq).later hb2 (by have := HG.out; simp; omega))
  have HG8 := Lib.hid (show 15 < ((w0.drewN nq).alloc (.cells zeros32 281)).heap.size by have := HG.out; simp; omega)
  have HH := Lib.hid (holds_zeros w2.drew w0.heap.size HZ2.out)
  clear hb2
  go_wp2_with fail
  go_region_law (first
    | (go_simp; go_at_call 111; refine (num15 _ (HE2.out.drew)).mono ?_; rintro e w' ⟨rfl, rfl⟩)
    | (go_simp; go_at_call 224; refine (setDigits15 _ _ HH.out).mono ?_; rintro e w3 ⟨rfl, hc, hb3⟩))
  have hb4 : Below w0.heap.size w0 w3 := HB2.out.trans (show Below w0.heap.size w2 w3 from ⟨hb3.os, hb3.tape, hb3.output, hb3.size, hb3.block⟩)
  have hsz : w0.heap.size < w3.heap.size := by have h1 := HB2S.out.size; have h2 := hb3.size; simp at h1 h2; omega
  have HST := Lib.hid (show St w0 g w0.heap.size [] w3 from ⟨own_later HO.out hb4, hc.1, hc.2, hb4.mono (Nat.le_of_lt HG.out), HG.out, hsz⟩)
  clear hc hb3 hb4 hsz
  go_wp2_with (go_at_call 222; go_must (refine (efg15e _ _ _ _ HST.out).mono ?_); rintro e w4 ⟨rfl, h4⟩)
  go_ret
  exact ⟨rfl, h4.own, h4.bel⟩
theorem ftoa15f (w0 : World) (g : Nat) (hown : w0.ownsRow g 5 1 (.slice (some ⟨g, 0, none⟩) 0 24) 0 []) (hg : 15 < g) (henv : Env w0) :
    Calls Tryz.prog 187 #[.slice (some ⟨g, 0, none⟩) 0 24, .float .f64 4609434218613702656, .int .u8 102, .int .i64 (-1)] w0 fun e w' => e = .returned (.slice (some ⟨g, 0, none⟩) 3 24) ∧ w'.ownsRow g 5 1 (.slice (some ⟨g, 0, none⟩) 3 24) 3 (Lib.byteCells [49, 46, 53]) ∧ Below g w0 w' := by
  have h65 := bits65
  have b1 : bits BinOp.and IntKind.u64 4609434218613702656 4503599627370495 = 2251799813685248 := by kernel_rfl
  have b2 : bits BinOp.or IntKind.u64 2251799813685248 4503599627370496 = 6755399441055744 := by kernel_rfl
  have mm4 : max (1 : Int) 0 = 1 := by decide
  have b3 : bits BinOp.and IntKind.i64 1023 2047 = 1023 := by kernel_rfl
  have hgs := (hown.lt g rfl).2
  have hbA := fun n => (below_drewN (Below.refl w0.heap.size w0) n).alloc (Nat.le_refl _) (.cells zeros32 281)
  have henvA := fun n => henv.later (hbA n) (by omega)
  have hzA : ∀ n, ((w0.drewN n).alloc (.cells zeros32 281)).heap[w0.heap.size]? = some (.cells zeros32 281 (0, 0)) := fun n => heap_alloc_new (w0.drewN n) _
  have HBA := Lib.hid hbA
  have HEA := Lib.hid henvA
  have HZA := Lib.hid hzA
  have HG := Lib.hid hgs
  clear hbA henvA hzA hgs
  have HO := Lib.hid hown
  have HE := Lib.hid henv
  clear hown henv
  go_enter Tryz.func187, Tryz.ntmps187
  go_wp2
  go_quiet (fail)
  go_wp2_with fail
  refine (len15 _).mono ?_
  rintro e w1 ⟨rfl, rfl⟩
  go_wp2_with fail
  refine (short15 _ (HEA.out nq).pow (by have := HG.out; simp; omega)).mono ?_
  rintro e w2 ⟨rfl, hb2⟩
  have HB2 := Lib.hid ((HBA.out nq).trans (hb2.mono (by simp)))
  have HZ2 := Lib.hid ((hb2.block w0.heap.size (by simp)).trans (HZA.out nq))
  have HB2S := Lib.hid hb2
  have HE2 := Lib.hid ((HEA.out nq).later hb2 (by have := HG.out; simp; omega))
  have HG8 := Lib.hid (show 15 < ((w0.drewN nq).alloc (.cells zeros32 281)).heap.size by have := HG.out; simp; omega)
  have HH := Lib.hid (holds_zeros w2.drew w0.heap.size HZ2.out)
  clear hb2
  go_wp2_with fail
  go_region_law (first
    | (go_simp; go_at_call 111; refine (num15 _ (HE2.out.drew)).mono ?_; rintro e w' ⟨rfl, rfl⟩)
    | (go_simp; go_at_call 224; refine (setDigits15 _ _ HH.out).mono ?_; rintro e w3 ⟨rfl, hc, hb3⟩))
  have hb4 : Below w0.heap.size w0 w3 := HB2.out.trans (show Below w0.heap.size w2 w3 from ⟨hb3.os, hb3.tape, hb3.output, hb3.size, hb3.block⟩)
  have hsz : w0.heap.size < w3.heap.size := by have h1 := HB2S.out.size; have h2 := hb3.size; simp at h1 h2; omega
  have HST := Lib.hid (show St w0 g w0.heap.size [] w3 from ⟨own_later HO.out hb4, hc.1, hc.2, hb4.mono (Nat.le_of_lt HG.out), HG.out, hsz⟩)
  clear hc hb3 hb4 hsz
  go_wp2_with (go_at_call 222; go_must (refine (efg15f _ _ _ _ HST.out).mono ?_); rintro e w4 ⟨rfl, h4⟩)
  go_ret
  exact ⟨rfl, h4.own, h4.bel⟩
end Go.Proofs.YtagiddbfhlokcaaGreatDoor.One
/- FormatFloat at 1.5. Conditions: the cells of the two tables of powers. -/
namespace Go.Proofs.YtagiddbfhlokcaaGreatDoor.One
open Go.RowKit
set_option maxRecDepth 100000
theorem str_of_own {w : World} {base : Nat} {v : Value} (l : List UInt8) (h : w.ownsRow base 5 1 v l.length (Lib.byteCells l)) : (convert 59 9 v).run Tryz.prog w = .ok (.string ⟨l.toArray⟩) w := by
  rcases h.2 with ⟨rfl, h0⟩ | ⟨g, cap, cur, rfl, _⟩
  · have : l = [] := List.length_eq_zero_iff.1 h0
    subst this
    rw [run_convert_bytes_string w 59 9 5 none 0 0 Tryz.underlying59 Tryz.underlying5 Tryz.underlying9]
    rfl
  · refine run_convert_bytes_back w 59 9 5 ⟨g, 0, none⟩ cap l Tryz.underlying59 Tryz.underlying5 Tryz.underlying9 fun j hj => ?_
    have := h.cellAt j (by omega)
    have e : (Addr.add ⟨g, 0, none⟩ j) = ⟨g, j, none⟩ := by unfold Addr.add; split <;> simp_all
    rw [e, this]
    simp [Lib.byteCells, hj]

theorem iform15e (w0 : World) (henv : Env w0) (h8 : 15 < w0.heap.size) : Calls Tryz.prog 150 #[.float .f64 4609434218613702656, .int .u8 101, .int .i64 (-1), .int .i64 64] w0 fun e w' => e = .returned (.string ⟨#[49, 46, 53, 101, 43, 48, 48]⟩) ∧ Below w0.heap.size w0 w' := by
  obtain ⟨i0, hi, hz0, hz1, hz2⟩ := info_parts info5
  have HI := Lib.hid hi
  have HZ0 := Lib.hid hz0
  have HZ1 := Lib.hid hz1
  have HZ2 := Lib.hid hz2
  have HE := Lib.hid henv
  have H8 := Lib.hid h8
  clear hi hz0 hz1 hz2 henv h8
  go_enter Tryz.func150, Tryz.ntmps150
  go_wp2_with (first
    | (refine wpList_make_own w0 rfl _ _ 59 rfl w0.heap.size 5 i0 (.int .u8 0) 1 Tryz.underlying59 HI.out HZ0.out HZ1.out .i64 .i64 24 24 rfl rfl rfl (by rw [HZ2.out]; omega) (by unfold maxLen; omega) (Nat.le_refl _) ?_; intro w1 hown hgrow; have HO1 := Lib.hid hown; have HB1 := Lib.hid ((Below.refl w0.heap.size w0).grown hgrow (Nat.le_refl _) (fun j hj => by cases hj)); have HE1 := Lib.hid (HE.out.later HB1.out H8.out); clear hown hgrow)
    | (go_at_call 187; refine (ftoa15e _ w0.heap.size HO1.out H8.out HE1.out).mono ?_; rintro e w' ⟨rfl, ho, hb⟩; have hcv := str_of_own [49, 46, 53, 101, 43, 48, 48] ho; have HB2 := Lib.hid hb; clear ho hb))
  go_ret
  exact ⟨rfl, HB1.out.trans HB2.out⟩
theorem form15e (w0 : World) (henv : Env w0) (h8 : 15 < w0.heap.size) : Calls Tryz.prog 101 #[.float .f64 4609434218613702656, .int .u8 101, .int .i64 (-1), .int .i64 64] w0 fun e w' => e = .returned (.string ⟨#[49, 46, 53, 101, 43, 48, 48]⟩) ∧ Below w0.heap.size w0 w' := by
  go_enter Tryz.func101, Tryz.ntmps101
  go_wp2_with (go_at_call 150; refine (iform15e _ henv h8).mono ?_; rintro e w' ⟨rfl, hb⟩)
  go_ret
  exact ⟨rfl, hb⟩
theorem iform15f (w0 : World) (henv : Env w0) (h8 : 15 < w0.heap.size) : Calls Tryz.prog 150 #[.float .f64 4609434218613702656, .int .u8 102, .int .i64 (-1), .int .i64 64] w0 fun e w' => e = .returned (.string ⟨#[49, 46, 53]⟩) ∧ Below w0.heap.size w0 w' := by
  obtain ⟨i0, hi, hz0, hz1, hz2⟩ := info_parts info5
  have HI := Lib.hid hi
  have HZ0 := Lib.hid hz0
  have HZ1 := Lib.hid hz1
  have HZ2 := Lib.hid hz2
  have HE := Lib.hid henv
  have H8 := Lib.hid h8
  clear hi hz0 hz1 hz2 henv h8
  go_enter Tryz.func150, Tryz.ntmps150
  go_wp2_with (first
    | (refine wpList_make_own w0 rfl _ _ 59 rfl w0.heap.size 5 i0 (.int .u8 0) 1 Tryz.underlying59 HI.out HZ0.out HZ1.out .i64 .i64 24 24 rfl rfl rfl (by rw [HZ2.out]; omega) (by unfold maxLen; omega) (Nat.le_refl _) ?_; intro w1 hown hgrow; have HO1 := Lib.hid hown; have HB1 := Lib.hid ((Below.refl w0.heap.size w0).grown hgrow (Nat.le_refl _) (fun j hj => by cases hj)); have HE1 := Lib.hid (HE.out.later HB1.out H8.out); clear hown hgrow)
    | (go_at_call 187; refine (ftoa15f _ w0.heap.size HO1.out H8.out HE1.out).mono ?_; rintro e w' ⟨rfl, ho, hb⟩; have hcv := str_of_own [49, 46, 53] ho; have HB2 := Lib.hid hb; clear ho hb))
  go_ret
  exact ⟨rfl, HB1.out.trans HB2.out⟩
theorem form15f (w0 : World) (henv : Env w0) (h8 : 15 < w0.heap.size) : Calls Tryz.prog 101 #[.float .f64 4609434218613702656, .int .u8 102, .int .i64 (-1), .int .i64 64] w0 fun e w' => e = .returned (.string ⟨#[49, 46, 53]⟩) ∧ Below w0.heap.size w0 w' := by
  go_enter Tryz.func101, Tryz.ntmps101
  go_wp2_with (go_at_call 150; refine (iform15f _ henv h8).mono ?_; rintro e w' ⟨rfl, hb⟩)
  go_ret
  exact ⟨rfl, hb⟩
end Go.Proofs.YtagiddbfhlokcaaGreatDoor.One
/- The text of 1.5. Conditions: the cells of the two tables of powers. -/
namespace Go.Proofs.YtagiddbfhlokcaaGreatDoor.One
open Go.RowKit
theorem index0 (w : World) : Calls Tryz.prog 185 #[.string ⟨#[49, 46, 53, 101, 43, 48, 48]⟩, .string ⟨#[101]⟩] w fun e w' => e = .returned (.int .i64 3) ∧ w' = w := by
  have h := Tryz.stringslite_Index_one ⟨#[49, 46, 53, 101, 43, 48, 48]⟩ 101 w
  have e : Lib.indexByte (ByteArray.mk #[49, 46, 53, 101, 43, 48, 48]).data.toList 101 = 3 := by decide
  rw [e] at h
  exact h
theorem scut0 (w : World) : Calls Tryz.prog 149 #[.string ⟨#[49, 46, 53, 101, 43, 48, 48]⟩, .string ⟨#[101]⟩] w fun e w' => e = .returned (.tuple #[.string ⟨#[49, 46, 53]⟩, .string ⟨#[43, 48, 48]⟩, .bool true]) ∧ ∃ n, w' = w.drewN n := by
  go_enter Tryz.func149, Tryz.ntmps149
  go_wp2_with (go_at_call 185; refine (index0 _).mono ?_; rintro e w' ⟨rfl, rfl⟩)
  go_quiet (fail)
  go_wp2
  go_ret3
  exact ⟨rfl, _, rfl⟩
theorem cut0 (w : World) : Calls Tryz.prog 100 #[.string ⟨#[49, 46, 53, 101, 43, 48, 48]⟩, .string ⟨#[101]⟩] w fun e w' => e = .returned (.tuple #[.string ⟨#[49, 46, 53]⟩, .string ⟨#[43, 48, 48]⟩, .bool true]) ∧ ∃ n, w' = w.drewN n := by
  go_enter Tryz.func100, Tryz.ntmps100
  go_wp2_with (go_at_call 149; refine (scut0 _).mono ?_; rintro e w' ⟨rfl, n, rfl⟩)
  go_ret3
  exact ⟨rfl, _, rfl⟩
theorem atoi0 (w : World) : Calls Tryz.prog 102 #[.string ⟨#[43, 48, 48]⟩] w fun e w' => e = .returned (.tuple #[.int .i64 0, .nilIface]) ∧ Below w.heap.size w w' := by
  refine (Tryz.strconv_Atoi ⟨#[43, 48, 48]⟩ 0 (by decide) (by decide) w).mono ?_
  rintro e w' ⟨rfl, t, rfl⟩
  exact ⟨rfl, Lib.bytesWorld_below _ _ _⟩
theorem vfloat15 (w : World) (henv : Env w) (h8 : 15 < w.heap.size) : Calls Tryz.prog 65 #[.float .f64 4609434218613702656] w fun e w' => e = .returned (.string ⟨#[49, 46, 53]⟩) ∧ Below w.heap.size w w' := by
  go_enter Tryz.func65, Tryz.ntmps65
  go_wp2_with fail
  refine (form15e _ henv h8).mono ?_
  rintro e w1 ⟨rfl, hb1⟩
  go_wp2_with fail
  refine (cut0 _).mono ?_
  rintro e w2 ⟨rfl, n, rfl⟩
  go_wp2_with fail
  refine (atoi0 _).mono ?_
  rintro e w3 ⟨rfl, hb3⟩
  go_wp2_with fail
  refine (form15f _ (((henv.later hb1 h8).later (below_drewN (Below.refl w1.heap.size w1) n) (Nat.lt_of_lt_of_le h8 hb1.size)).later hb3 (Nat.lt_of_lt_of_le h8 hb1.size)) (Nat.lt_of_lt_of_le h8 (Nat.le_trans hb1.size hb3.size))).mono ?_
  rintro e w4 ⟨rfl, hb4⟩
  go_wp2_with fail
  go_ret
  exact ⟨rfl, ((below_drewN hb1 n).trans (hb3.mono (below_drewN hb1 n).size)).trans (hb4.mono ((below_drewN hb1 n).trans (hb3.mono (below_drewN hb1 n).size)).size)⟩
end Go.Proofs.YtagiddbfhlokcaaGreatDoor.One
/- Of, Formed and Print at 1.5, and awake. Conditions: the cells of the two tables of powers. -/
namespace Go.Proofs.YtagiddbfhlokcaaGreatDoor.One
open Go.RowKit Go.Sort
set_option maxRecDepth 100000
theorem run7 (x : Nat) (w : World) : (callFunc 55 #[.float .f64 x]).run Tryz.prog w = .ok (.value (.int .u64 x)) w := by
  rw [run_callFunc_extern Tryz.func55 (by kernel_rfl) (by kernel_rfl) (by kernel_rfl) (e := Extern.MathFloatBits.float64bits) (by kernel_rfl)]
  rfl
theorem run11 (n : Int) (w : World) : (callFunc 66 #[.int .u64 n]).run Tryz.prog w = .ok (.value (.float .f64 n.toNat)) w := by
  rw [run_callFunc_extern Tryz.func66 (by kernel_rfl) (by kernel_rfl) (by kernel_rfl) (e := Extern.MathFloatBits.float64frombits) (by kernel_rfl)]
  rfl
def vFl (x : Nat) : Value := .agg #[.int .i64 1, .int .u64 x, .string ⟨#[]⟩]
def cFl (x : Nat) : Obj := .cells #[.int .i64 1, .int .u64 x, .string ⟨#[]⟩] 53
theorem cells_fl (w : World) (x : Nat) : (w.alloc (cFl x)).cell? ⟨w.heap.size, 0, none⟩ = some (.int .i64 1) ∧ (w.alloc (cFl x)).cell? ⟨w.heap.size, 1, none⟩ = some (.int .u64 x) ∧ (w.alloc (cFl x)).cell? ⟨w.heap.size, 2, none⟩ = some (.string ⟨#[]⟩) := by
  unfold cFl
  simp
theorem results8 (tmps : Array Value) (w : World) (B : Nat) (x y z : Value) (hb : tmps.getD 2 undef = .pointer (some ⟨B, 0, none⟩)) (h : w.cell? ⟨B, 0, none⟩ = some x ∧ w.cell? ⟨B, 1, none⟩ = some y ∧ w.cell? ⟨B, 2, none⟩ = some z) :
    (results Tryz.f50 tmps).run Tryz.prog w = .ok (.agg #[x, y, z]) w := by
  have hb' : tmps[2]?.getD undef = .pointer (some ⟨B, 0, none⟩) := by simpa using hb
  simp [results, hb', h.1, h.2.1, h.2.2, go_sem]
theorem of8 (x : Nat) (w : World) : Calls Tryz.prog 50 #[.float .f64 x] w fun e w' => e = .returned (vFl x) ∧ w' = w.alloc (cFl x) := by
  have h7 := run7 x
  go_enter Tryz.func50, Tryz.ntmps50
  go_wp2_with fail
  exact bodyPost_ret (results8 _ _ w.heap.size _ _ _ rfl (cells_fl w x)) rfl ⟨rfl, rfl⟩
end Go.Proofs.YtagiddbfhlokcaaGreatDoor.One
/- Formed and Print at 1.5, and awake. Conditions: the cells of the two tables of powers. -/
namespace Go.Proofs.YtagiddbfhlokcaaGreatDoor.One
open Go.RowKit Go.Sort
set_option maxRecDepth 100000
theorem abs15 (w : World) : Calls Tryz.prog 147 #[.float .f64 4609434218613702656] w fun e w' => e = .returned (.float .f64 4609434218613702656) ∧ w = w' := by
  have h7 := run7 4609434218613702656
  have h11 := run11 4609434218613702656
  have b1 : bits BinOp.andNot IntKind.u64 4609434218613702656 9223372036854775808 = 4609434218613702656 := by kernel_rfl
  go_enter Tryz.func147, Tryz.ntmps147
  go_wp2_with fail
  go_ret
  exact ⟨rfl, rfl⟩
theorem isNaN15 (w : World) : Calls Tryz.prog 94 #[.float .f64 4609434218613702656] w fun e w' => e = .returned (.bool false) ∧ w = w' := by
  have h : FloatKind.f64.format.order 4609434218613702656 4609434218613702656 = some .eq := by kernel_rfl
  go_enter Tryz.func94, Tryz.ntmps94
  go_wp2
  go_ret
  exact ⟨rfl, rfl⟩
theorem isInf15 (w : World) : Calls Tryz.prog 95 #[.float .f64 4609434218613702656, .int .i64 0] w fun e w' => e = .returned (.bool false) ∧ w = w' := by
  have h : FloatKind.f64.format.order 4609434218613702656 9218868437227405311 = some .lt := by kernel_rfl
  go_enter Tryz.func95, Tryz.ntmps95
  go_wp2_with (go_at_call 147; refine (abs15 _).mono ?_; rintro e w' ⟨rfl, rfl⟩)
  go_ret
  exact ⟨rfl, rfl⟩
theorem formed15 (w : World) : Calls Tryz.prog 59 #[vFl 4609434218613702656] w fun e w' => e = .returned (.bool true) ∧ w' = w.alloc (cFl 4609434218613702656) := by
  have h11 : ∀ w, (callFunc 66 #[.int .u64 4609434218613702656]).run Tryz.prog w = .ok (.value (.float .f64 4609434218613702656)) w := fun w => run11 4609434218613702656 w
  unfold vFl cFl
  go_enter Tryz.func59, Tryz.ntmps59
  go_wp2_with fail
  refine (isNaN15 _).mono ?_
  rintro e w' ⟨rfl, rfl⟩
  go_wp2_with fail
  refine (isInf15 _).mono ?_
  rintro e w' ⟨rfl, rfl⟩
  go_wp2_with fail
  go_ret
  exact ⟨rfl, rfl⟩
end Go.Proofs.YtagiddbfhlokcaaGreatDoor.One
/- Print at 1.5, and awake. Conditions: the cells of the two tables of powers. -/
namespace Go.Proofs.YtagiddbfhlokcaaGreatDoor.One
open Go.RowKit Go.Sort
set_option maxRecDepth 100000
theorem print15 (w : World) (henv : Env w) (h8 : 15 < w.heap.size) : Calls Tryz.prog 27 #[vFl 4609434218613702656] w fun e w' => e = .returned (.tuple #[.string ⟨#[49, 46, 53]⟩, .int .i64 0]) ∧ Below w.heap.size w w' := by
  have h11 : ∀ w, (callFunc 66 #[.int .u64 4609434218613702656]).run Tryz.prog w = .ok (.value (.float .f64 4609434218613702656)) w := fun w => run11 4609434218613702656 w
  have hb2 := ((Below.refl w.heap.size w).alloc (Nat.le_refl _) (cFl 4609434218613702656)).alloc (by simp) (cFl 4609434218613702656)
  have HB2 := Lib.hid hb2
  have HE2 := Lib.hid (henv.later hb2 h8)
  have H8 := Lib.hid (show 15 < ((w.alloc (cFl 4609434218613702656)).alloc (cFl 4609434218613702656)).heap.size by simp; omega)
  have hform := formed15
  have HF := Lib.hid hform
  clear hb2 henv h8 hform
  unfold vFl cFl at *
  go_enter Tryz.func27, Tryz.ntmps27
  go_wp2_with fail
  refine (HF.out _).mono ?_
  rintro e w' ⟨rfl, hw⟩
  subst hw
  go_wp2_with fail
  refine (vfloat15 _ HE2.out H8.out).mono ?_
  rintro e w' ⟨rfl, hb⟩
  go_wp2_with fail
  go_ret2
  exact ⟨rfl, HB2.out.trans (hb.mono (by simp; omega))⟩
theorem awake15 (w : World) (henv : Env w) (h8 : 15 < w.heap.size) : Calls Tryz.prog 20 #[] w fun e w' => e = .returned (.bool true) ∧ Below w.heap.size w w' := by
  have hb1 := (Below.refl w.heap.size w).alloc (Nat.le_refl _) (cFl 4609434218613702656)
  have HB1 := Lib.hid hb1
  have HE1 := Lib.hid (henv.later hb1 h8)
  have H8 := Lib.hid (show 15 < (w.alloc (cFl 4609434218613702656)).heap.size by simp; omega)
  clear hb1 henv h8
  go_enter Tryz.func20, Tryz.ntmps20
  go_wp2_with fail
  refine (of8 _ _).mono ?_
  rintro e w' ⟨rfl, hw⟩
  subst hw
  go_wp2_with fail
  refine (print15 _ HE1.out H8.out).mono ?_
  rintro e w' ⟨rfl, hb⟩
  go_wp2_with fail
  go_ret
  exact ⟨rfl, HB1.out.trans (hb.mono (by simp))⟩
end Go.Proofs.YtagiddbfhlokcaaGreatDoor.One
/- The walks' environment out of the row's condition. No condition. -/
namespace Go.Proofs.YtagiddbfhlokcaaGreatDoor
open Go.RowKit
set_option maxRecDepth 100000
def TT (k : Nat) : Nat × Nat := Pinned.pow10Rows.getD k (0, 0)
def FF (k : Nat) : Nat := flL.getD k 0
def SS (k : Nat) : ByteArray := ⟨(Pinned.cheatRows.getD k (0, [])).2.toArray⟩
theorem tt_lt : TabLt TT := by
  have key : (Pinned.pow10Rows.all fun x => decide (x.1 < 18446744073709551616) && decide (x.2 < 18446744073709551616)) = true := by decide +kernel
  intro k
  unfold TT
  by_cases h : k < Pinned.pow10Rows.length
  · rw [List.getD_eq_getElem?_getD, List.getElem?_eq_getElem h]
    have := List.all_eq_true.1 key _ (List.getElem_mem h)
    simpa using this
  · rw [List.getD_eq_getElem?_getD, List.getElem?_eq_none (by omega)]
    simp
theorem ff_ok : PF.TabOk FF := by
  have key : ∀ k : Fin 23, PF.Low (FF k.val) 1096 ∧ PF.High (FF k.val) 1023 ∧ FF k.val < 9223372036854775808 := by
    unfold PF.Low PF.High
    decide +kernel
  intro k hk
  exact key ⟨k, by omega⟩
theorem penv_of {W : World} (h : laidMet Tryz.prog Laid.lst W) : ∃ B2 o2 B o, PEnv TT FF B2 o2 B o SS W := by
  obtain ⟨i0, i1, i2⟩ := info_of h
  obtain ⟨B2, o2, p0, p1⟩ := pt_of h
  obtain ⟨g, og, f0, f1⟩ := fl_of h
  obtain ⟨B, o, c0, c1⟩ := ch_of h
  have hpow := pow_of h
  have hl : Pinned.pow10Rows.length = 696 := by decide +kernel
  have hcl : Pinned.cheatRows.length = 61 := by decide +kernel
  refine ⟨B2, o2, B, o, ⟨⟨fun k hk => ?_, fun k hk => ?_⟩, tt_lt, ⟨i0, ff_ok, g, og, f0, fun k hk => ?_⟩, ⟨i0, i1, i2, p0, fun i hi => ?_, ⟨c0, fun k h1 h2 => ?_, fun k h1 h2 => ⟨?_, ?_⟩⟩⟩, op_of h⟩⟩
  · rw [(hpow k (by omega)).1]
    unfold TT
    rw [List.getD_eq_getElem?_getD, List.getElem?_eq_getElem (by omega)]
    rfl
  · rw [(hpow k (by omega)).2]
    unfold TT
    rw [List.getD_eq_getElem?_getD, List.getElem?_eq_getElem (by omega)]
    rfl
  · rw [f1 k (by omega)]
    unfold FF
    rw [List.getD_eq_getElem?_getD, List.getElem?_eq_getElem (show k < flL.length from by show k < 23; omega)]
    rfl
  · rw [p1 i hi]
    have key : ∀ i : Fin 9, (ptL[i.val]'(i.isLt)) = (PF.powtab i.val : Int) := by decide +kernel
    rw [← key ⟨i, hi⟩]
  · have h3 := (c1 k (by omega)).1
    rw [h3]
    have key : ∀ k : Fin 61, 1 ≤ k.val → (Pinned.cheatRows.getD k.val (0, [])).1 = k.val - PF.cN k.val + 1 := by decide +kernel
    have := key ⟨k, h2⟩ h1
    rw [List.getD_eq_getElem?_getD, List.getElem?_eq_getElem (by omega)] at this
    simp only [Option.getD_some] at this
    rw [this]
  · have h3 := (c1 k (by omega)).2
    rw [h3]
    unfold SS
    rw [List.getD_eq_getElem?_getD, List.getElem?_eq_getElem (by omega)]
    rfl
  · have key : ∀ k : Fin 61, 1 ≤ k.val → (Pinned.cheatRows.getD k.val (0, [])).2.map UInt8.toNat = (PF.dgs (5 ^ k.val)).map (48 + ·) := by decide +kernel
    have h3 := key ⟨k, h2⟩ h1
    simp only at h3
    unfold SS
    obtain ⟨l, hl2⟩ : ∃ l, (Pinned.cheatRows.getD k (0, [])).2 = l := ⟨_, rfl⟩
    obtain ⟨d, hd⟩ : ∃ d, PF.dgs (5 ^ k) = d := ⟨_, rfl⟩
    rw [hl2, hd] at h3
    rw [hl2, hd]
    have hlen : l.length = d.length := by have := congrArg List.length h3; simpa using this
    refine ⟨by rw [← hlen]; simp [ByteArray.size], fun i hi => ?_⟩
    have hi2 : i < l.length := by simpa [ByteArray.size] using hi
    have h4 := congrArg (·[i]?) h3
    simp only [List.getElem?_map, List.getElem?_eq_getElem hi2, List.getElem?_eq_getElem (show i < d.length by omega), Option.map_some] at h4
    have h5 := Option.some.inj h4
    have e1 : (ByteArray.mk l.toArray)[i] = l[i] := by
      show l.toArray[i] = _
      simp
    rw [e1, h5, List.getD_eq_getElem?_getD, List.getElem?_eq_getElem (by omega)]
    rfl
theorem one_env {W : World} (h : laidMet Tryz.prog Laid.lst W) : One.Env W ∧ 15 < W.heap.size := by
  have hl : Pinned.pow10Rows.length = 696 := by decide +kernel
  have h364 := pow_of h 364 (by omega)
  have e : Pinned.pow10Rows[364]'(by omega) = (10240000000000000000, 0) := by
    have : Pinned.pow10Rows[364]? = some (10240000000000000000, 0) := by decide +kernel
    rw [List.getElem?_eq_getElem (by omega)] at this
    exact Option.some.inj this
  rw [e] at h364
  have h8 := drop_met 8 (by omega) h
  have tab_is : (Rows.laid_internal_strconv_uint64pow10 : DataW Unit) = Lib.tabData .u64 Lib.pow10Tab := by kernel_rfl
  have h9 : laidMet Tryz.prog (("internal/strconv.uint64pow10", Lib.tabData .u64 Lib.pow10Tab) :: Laid.lst.drop 9) W := by rw [← tab_is]; exact h8
  have ht := Lib.tabIs_of_head (by kernel_rfl : Tryz.prog.globalNamed "internal/strconv.uint64pow10" = some 1) (by kernel_rfl : (Tryz.prog.globals[1]?).map (·.type) = some 201) Tryz.underlying201 Tryz.underlying51 (by kernel_rfl : Tryz.prog.cellsOf 51 = 1) (by kernel_rfl) h9
  exact ⟨⟨⟨h364.1, h364.2⟩, ht⟩, World.block_lt_of_cell? W _ h364.1⟩
end Go.Proofs.YtagiddbfhlokcaaGreatDoor
/- What one line reads as. No condition. -/
namespace Go.Proofs.YtagiddbfhlokcaaGreatDoor.Ser
open Go.RowKit Go.Sort
set_option maxRecDepth 100000
def V0 : List UInt8 → Value × Int := valP (tabF TT) FF
def l0 : List UInt8 := [99, 112, 117, 44, 104, 111, 115, 116, 61, 97, 32, 118, 61, 49, 46, 53, 44, 110, 61, 51, 105, 32, 49, 48]
def chk (o : LR) : Bool := decide (o.1 = 0) && match o.2 with
  | some (_, _, fs, tm) => decide (tm = 10) && decide (fs.length = 2) && decide ((fE fs 0).1 = ⟨#[110]⟩)
  | none => false
theorem chk0 : chk (lineP V0 0 l0) = true := by decide +kernel
end Go.Proofs.YtagiddbfhlokcaaGreatDoor.Ser
/- The law ValueParses: both readers answer alike. Condition: the text's length, the tables. -/
namespace Go.Proofs.YtagiddbfhlokcaaGreatDoor
open Go.RowKit
set_option maxRecDepth 100000
theorem valP_val (T : Int → Nat × Nat) (F : Nat → Nat) (l : List UInt8) : ∃ k b t n, valP T F l = (val k b t, n) := by
  unfold valP
  split
  · exact ⟨_, _, _, _, rfl⟩
  split
  · exact ⟨_, _, _, _, rfl⟩
  split
  · exact unqV_val _
  split
  · split
    · exact ⟨_, _, _, _, rfl⟩
    · exact ⟨_, _, _, _, rfl⟩
  split
  · split
    · exact ⟨_, _, _, _, rfl⟩
    · exact ⟨_, _, _, _, rfl⟩
  · exact ⟨_, _, _, _, rfl⟩
set_option maxHeartbeats 4000000 in
theorem law6 (l : List UInt8) (hlen : l.length ≤ 140737488355328) (w : World) (hm : laidMet Tryz.prog Laid.lst w) :
    Calls Tryz.prog 6 #[.string (bs l)] w fun e w' => e = .returned (.bool true) ∧ Below w.heap.size w w' := by
  obtain ⟨B2, o2, B, o, hp⟩ := penv_of hm
  obtain ⟨tp, p, her⟩ := er_of hm
  obtain ⟨henv, h15⟩ := one_env hm
  obtain ⟨k, b, t, n, hval⟩ := valP_val (tabF TT) FF l
  have M21 := Lib.hid (fun w2 (h : Below w.heap.size w w2) => parse21 l hlen w2 (hp.below h) ((h.cell (cell_lt her)).trans her) (.inr ⟨_, _, rfl⟩))
  have M22 := Lib.hid (fun w2 (h : Below w.heap.size w w2) => parse22 l hlen w2 (hp.below h) ((h.cell (cell_lt her)).trans her) (.inr ⟨_, _, rfl⟩))
  rw [hval] at M21 M22
  unfold val at M21 M22
  simp only at M21 M22
  have MA := Lib.hid (One.awake15 w henv h15)
  clear hm hp her henv hval h15
  go_enter Tryz.func6, Tryz.ntmps6
  go_wp2_with fail
  refine MA.out.mono ?_
  rintro e w1 ⟨rfl, hb1⟩
  have HB1 := Lib.hid hb1
  clear hb1
  go_wp2_with fail
  refine (M21.out _ HB1.out).mono ?_
  rintro e w2 ⟨rfl, hb2⟩
  have HB2 := Lib.hid (HB1.out.trans (hb2.mono HB1.out.size))
  clear hb2
  have hba : Below w.heap.size w (w2.alloc (.cells #[.int .i64 k, .int .u64 b, .string t] 53 (0, 0))) := HB2.out.alloc HB2.out.size _
  have hnew := newest w2 (.cells #[.int .i64 k, .int .u64 b, .string t] 53 (0, 0))
  have hlt : w2.heap.size < (w2.alloc (.cells #[.int .i64 k, .int .u64 b, .string t] 53 (0, 0))).heap.size := by simp
  go_wp2_with fail
  obtain ⟨w3, hw3⟩ : ∃ w3, w2.alloc (.cells #[.int .i64 k, .int .u64 b, .string t] 53 (0, 0)) = w3 := ⟨_, rfl⟩
  rw [hw3] at hba hnew hlt
  have HBA := Lib.hid hba
  have HNEW := Lib.hid hnew
  have HLT := Lib.hid hlt
  clear hba hnew hlt
  rw [hw3]
  clear hw3
  refine (M22.out _ HBA.out).mono ?_
  rintro e w4 ⟨rfl, hb4⟩
  have hk : w4.heap[w2.heap.size]? = some (.cells #[.int .i64 k, .int .u64 b, .string t] 53 (0, 0)) := (hb4.block _ HLT.out).trans HNEW.out
  have HB4 := Lib.hid (HBA.out.trans (hb4.mono HBA.out.size))
  have c0 : w4.cell? ⟨w2.heap.size, 0, none⟩ = some (.int .i64 k) := Lib.cell_of_heap hk 0
  have c1 : w4.cell? ⟨w2.heap.size, 1, none⟩ = some (.int .u64 b) := Lib.cell_of_heap hk 1
  have c2 : w4.cell? ⟨w2.heap.size, 2, none⟩ = some (.string t) := Lib.cell_of_heap hk 2
  have hlt4 : w2.heap.size < w4.heap.size := Nat.lt_of_lt_of_le HLT.out hb4.size
  clear hb4 hk
  go_wp2_with fail
  go_ret
  exact ⟨rfl, HB4.out.alloc HB4.out.size _⟩
end Go.Proofs.YtagiddbfhlokcaaGreatDoor
/- The law LineParses: both readers of a line answer alike. Conditions: the text's length; the tables. -/
namespace Go.Proofs.YtagiddbfhlokcaaGreatDoor.Ser
open Go.RowKit Go.Sort
set_option maxRecDepth 100000
theorem wrap_u64 (z : Int) : 0 ≤ IntKind.wrap .u64 z ∧ IntKind.wrap .u64 z < 18446744073709551616 := by
  simp only [IntKind.wrap]
  constructor
  · exact Int.emod_nonneg _ (by decide)
  · exact Int.emod_lt_of_pos _ (by decide)
theorem V0_val (l : List UInt8) : ∃ k b t n, V0 l = (val k b t, n) ∧ 0 ≤ b ∧ b < 18446744073709551616 := by
  unfold V0 valP
  split
  · exact ⟨_, _, _, _, rfl, by decide, by decide⟩
  split
  · exact ⟨_, _, _, _, rfl, by decide, by decide⟩
  split
  · unfold unqV
    split
    · exact ⟨_, _, _, _, rfl, by decide, by decide⟩
    · split
      · exact ⟨_, _, _, _, rfl, by decide, by decide⟩
      · exact ⟨_, _, _, _, rfl, by decide, by decide⟩
  split
  · split
    · exact ⟨_, _, _, _, rfl, (wrap_u64 _).1, (wrap_u64 _).2⟩
    · exact ⟨_, _, _, _, rfl, by decide, by decide⟩
  split
  · split
    · exact ⟨_, _, _, _, rfl, by decide, by decide⟩
    · refine ⟨_, _, _, _, rfl, by omega, ?_⟩
      have := (PF.atof_fin (T := tabF TT) (fun p => (tt_lt _).1) ff_ok l).2.2
      omega
  · exact ⟨_, _, _, _, rfl, by decide, by decide⟩
theorem readers_of {w : World} (hm : laidMet Tryz.prog Laid.lst w) : Readers V0 w ∧ RReaders V0 w := by
  obtain ⟨B2, o2, B, o, hp⟩ := penv_of hm
  obtain ⟨tp, p, her⟩ := er_of hm
  refine ⟨⟨fun l hl w2 h => parse22 l hl w2 (hp.below h) ((h.cell (cell_lt her)).trans her) (.inr ⟨_, _, rfl⟩), fun l hl w2 h => int43 l (by omega) w2 ((h.cell (cell_lt her)).trans her) (.inr ⟨_, _, rfl⟩), V0_val⟩, ⟨fun l hl w2 h => parse21 l hl w2 (hp.below h) ((h.cell (cell_lt her)).trans her) (.inr ⟨_, _, rfl⟩), V0_val⟩⟩
theorem Readers.later {V : List UInt8 → Value × Int} {w w' : World} (h : Readers V w) (hb : Below w.heap.size w w') : Readers V w' :=
  ⟨fun l hl w2 h2 => h.v l hl w2 (hb.trans (h2.mono hb.size)), fun l hl w2 h2 => h.i l hl w2 (hb.trans (h2.mono hb.size)), h.f⟩
theorem RReaders.later {V : List UInt8 → Value × Int} {w w' : World} (h : RReaders V w) (hb : Below w.heap.size w w') : RReaders V w' :=
  ⟨fun l hl w2 h2 => h.v l hl w2 (hb.trans (h2.mono hb.size)), h.f⟩
theorem chk_some {o : LR} (h : chk o = true) : ∃ nm ts fs, o = (0, some (nm, ts, fs, 10)) ∧ fs.length = 2 ∧ (fE fs 0).1 = ⟨#[110]⟩ := by
  obtain ⟨e, r⟩ := o
  unfold chk at h
  simp only [Bool.and_eq_true, decide_eq_true_eq] at h
  obtain ⟨h1, h2⟩ := h
  cases r with
  | none => cases h2
  | some r =>
    obtain ⟨nm, ts, fs, tm⟩ := r
    simp only [Bool.and_eq_true, decide_eq_true_eq] at h2
    obtain ⟨⟨h3, h4⟩, h5⟩ := h2
    subst h1 h3
    exact ⟨nm, ts, fs, rfl, h4, h5⟩
set_option maxHeartbeats 4000000 in
theorem awake10 (w : World) (HV : Readers V0 w) : Calls Tryz.prog 10 #[] w (Answer (.bool true) w) := by
  obtain ⟨nm, ts, fs, ho, hlen, hkey⟩ := chk_some chk0
  have MP := parse15 l0 (by decide) 0 w HV
  rw [ho] at MP
  have hb0 : bs l0 = ⟨#[99, 112, 117, 44, 104, 111, 115, 116, 61, 97, 32, 118, 61, 49, 46, 53, 44, 110, 61, 51, 105, 32, 49, 48]⟩ := by decide
  rw [hb0] at MP
  have MPP := Lib.hid MP
  have HL := Lib.hid hlen
  have HKY := Lib.hid hkey
  clear ho MP hb0 HV hlen hkey
  go_enter Tryz.func10, Tryz.ntmps10
  go_wp2_with fail
  refine MPP.out.mono ?_
  rintro e w1 ⟨hb1, v, vf, rfl, hrt, hrf, hap⟩
  obtain ⟨a1, c1, rfl⟩ := hrt.slice
  obtain ⟨a2, c2, rfl⟩ := hrf.slice
  simp only at hrt hrf
  have hf := hrf.at
  obtain ⟨b, off, ha, hbw, e0, _, _, _⟩ := hf 0 (by rw [HL.out]; decide)
  subst ha
  rw [HKY.out] at e0
  rw [HL.out]
  have HB1 := Lib.hid hb1
  simp only [Nat.zero_mul, Nat.add_zero] at e0
  clear hrt hrf hap hf hb1
  go_upto_region 2 with (fail)
  refine wp_gen (fun wx => Below w.heap.size w wx ∧ wx.heap[w1.heap.size]? = some (.cells #[.string nm, .slice a1 ts.length c1, .slice (some ⟨b, off, none⟩) 2 c2, .int .i64 10] 27 (0, 0)) ∧ wx.cell? ⟨b, off, none⟩ = some (.string ⟨#[110]⟩)) ⟨HB1.out.alloc HB1.out.size _, newest _ _, ((((Below.refl w1.heap.size w1).alloc (Nat.le_refl _) _).cell (p := ⟨b, off, none⟩) hbw)).trans e0⟩ ?_
  rintro w2 ⟨hb2, hk2, hg2⟩
  have c2' : w2.cell? ⟨w1.heap.size, 2, none⟩ = some (.slice (some ⟨b, off, none⟩) 2 c2) := Lib.cell_of_heap hk2 2
  have c3' : w2.cell? ⟨w1.heap.size, 3, none⟩ = some (.int .i64 10) := Lib.cell_of_heap hk2 3
  have HB2 := Lib.hid hb2
  clear hb2 hk2 e0 hbw
  go_wp2_with fail
  go_ret
  exact ⟨rfl, HB2.out⟩
end Go.Proofs.YtagiddbfhlokcaaGreatDoor.Ser
/- The law LineParses walked. Conditions: the text's length; the tables. -/
namespace Go.Proofs.YtagiddbfhlokcaaGreatDoor.Ser
open Go.RowKit Go.Sort
set_option maxRecDepth 100000
def cont (R : LR) : ByteArray × List Tg × List Fd × Int := R.2.getD (⟨#[]⟩, [], [], 0)
/-- A row's value holds what was read. -/
structure RowIs (R : LR) (w : World) (nm : ByteArray) (a : Option Addr) (n : Nat) (fa : Option Addr) (m : Nat) (t : Int) : Prop where
  name : nm = (cont R).1
  tn : n = (cont R).2.1.length
  fn : m = (cont R).2.2.1.length
  tm : t = (cont R).2.2.2
  tags : TagsAt w a n (kOf (cont R).2.1) (vOf (cont R).2.1)
  fields : FieldsAt w fa (cont R).2.2.1
theorem RowIs.later {R : LR} {w w' : World} {nm : ByteArray} {a fa : Option Addr} {n m : Nat} {t : Int} (h : RowIs R w nm a n fa m t) (hb : Below w.heap.size w w') : RowIs R w' nm a n fa m t :=
  ⟨h.name, h.tn, h.fn, h.tm, fun i hi => by
    obtain ⟨b, off, h1, h2, h3, h4⟩ := h.tags i hi
    exact ⟨b, off, h1, Nat.lt_of_lt_of_le h2 hb.size, by rw [← h3]; exact hb.cell h2, by rw [← h4]; exact hb.cell h2⟩, h.fields.later hb⟩
theorem rowPost_is {R : LR} {w w' : World} {e : Ending} (h : RowPost R w e w') : Below w.heap.size w w' ∧ ∃ nm a n c fa m fc t, e = .returned (.tuple #[.agg #[.string nm, .slice a n c, .slice fa m fc, .int .i64 t], .int .i64 R.1]) ∧ RowIs R w' nm a n fa m t := by
  obtain ⟨hb, hm⟩ := h
  refine ⟨hb, ?_⟩
  cases ho : R.2 with
  | none =>
    rw [ho] at hm
    simp only at hm
    refine ⟨_, _, _, _, _, _, _, _, hm, ?_⟩
    have hc : cont R = (⟨#[]⟩, [], [], 0) := by unfold cont; rw [ho]; rfl
    refine ⟨by rw [hc], by rw [hc]; rfl, by rw [hc]; rfl, by rw [hc], fun i hi => absurd hi (Nat.not_lt_zero i), ?_⟩
    rw [hc]
    exact fun i hi => absurd hi (Nat.not_lt_zero i)
  | some r =>
    rw [ho] at hm
    obtain ⟨v, vf, he, hrt, hrf, _⟩ := hm
    obtain ⟨a1, c1, rfl⟩ := hrt.slice
    obtain ⟨a2, c2, rfl⟩ := hrf.slice
    have hc : cont R = r := by unfold cont; rw [ho]; rfl
    refine ⟨_, _, _, _, _, _, _, _, he, ?_⟩
    exact ⟨by rw [hc], by rw [hc], by rw [hc], by rw [hc], by rw [hc]; exact hrt.at, by rw [hc]; exact hrf.at⟩
theorem finP_small {name : ByteArray} {tags : List Tg} {p : Int × List Fd × Int} : (cont (finP name tags p)).2.1.length ≤ 8 ∧ (cont (finP name tags p)).2.2.1.length ≤ 16 := by
  unfold finP
  split
  · split
    · rename_i h
      unfold rowOk formedB at h
      simp only [Bool.and_eq_true, decide_eq_true_eq] at h
      exact ⟨h.2.1.2.2, h.2.2.2⟩
    · exact ⟨Nat.zero_le _, Nat.zero_le _⟩
  · exact ⟨Nat.zero_le _, Nat.zero_le _⟩
theorem lineP_small (V : List UInt8 → Value × Int) (now : Int) (l : List UInt8) : (cont (lineP V now l)).2.1.length ≤ 8 ∧ (cont (lineP V now l)).2.2.1.length ≤ 16 := by
  have z : ∀ e : Int, (cont (e, none)).2.1.length ≤ 8 ∧ (cont (e, none)).2.2.1.length ≤ 16 := fun e => ⟨Nat.zero_le _, Nat.zero_le _⟩
  unfold lineP
  split
  · exact z _
  · split
    · split
      · exact z _
      · split
        · exact finP_small
        · split
          · split
            · exact z _
            · exact finP_small
          · exact z _
    · exact z _
theorem RowIs.same {R : LR} {w : World} {nm nm' : ByteArray} {a fa a' fa' : Option Addr} {n m n' m' : Nat} {t t' : Int} (c fc c' fc' : Nat) (h : RowIs R w nm a n fa m t) (h' : RowIs R w nm' a' n' fa' m' t') (hs : (cont R).2.1.length ≤ 8 ∧ (cont R).2.2.1.length ≤ 16) :
    Calls Tryz.prog 13 #[.agg #[.string nm, .slice a n c, .slice fa m fc, .int .i64 t], .agg #[.string nm', .slice a' n' c', .slice fa' m' fc', .int .i64 t']] w (Answer (.bool true) w) := by
  obtain ⟨rfl, rfl, rfl, rfl, h1, h2⟩ := h
  obtain ⟨rfl, rfl, rfl, rfl, h3, h4⟩ := h'
  exact same13 _ _ _ _ _ _ _ _ _ _ _ _ _ _ _ (by omega) (by omega) h1 h3 h2 h4
set_option maxHeartbeats 4000000 in
theorem law4 (l : List UInt8) (hlen : l.length ≤ 1073741824) (now : Int) (w : World) (hm : laidMet Tryz.prog Laid.lst w) :
    Calls Tryz.prog 4 #[.string (bs l), .int .i64 now] w fun e w' => e = .returned (.bool true) ∧ Below w.heap.size w w' := by
  obtain ⟨h1, h2⟩ := readers_of hm
  obtain ⟨R, hR⟩ : ∃ R, lineP V0 now l = R := ⟨_, rfl⟩
  have hsm := lineP_small V0 now l
  have MA := Lib.hid (awake10 w h1)
  have M14 := Lib.hid (fun w2 (h : Below w.heap.size w w2) => parse14 now l hlen w2 (h2.later h))
  have M15 := Lib.hid (fun w2 (h : Below w.heap.size w w2) => parse15 l hlen now w2 (h1.later h))
  rw [hR] at M14 M15 hsm
  have HSM := Lib.hid hsm
  clear hm h1 h2 hR hsm
  go_enter Tryz.func4, Tryz.ntmps4
  go_wp2_with fail
  refine MA.out.mono ?_
  rintro e w1 ⟨rfl, hb1⟩
  have HB1 := Lib.hid hb1
  clear hb1
  go_wp2_with fail
  refine (M14.out _ HB1.out).mono ?_
  intro e w2 hp
  obtain ⟨hb2, nm, a, n, c, fa, m, fc, t, rfl, hri⟩ := rowPost_is hp
  have HB2 := Lib.hid (HB1.out.trans (hb2.mono HB1.out.size))
  have HRI := Lib.hid hri
  clear hp hb2 hri
  go_upto_region 4 with (fail)
  refine wp_gen (fun wx => Below w2.heap.size w2 wx ∧ wx.heap[w2.heap.size]? = some (.cells #[.string nm, .slice a n c, .slice fa m fc, .int .i64 t] 27 (0, 0))) ⟨(Below.refl _ _).alloc (Nat.le_refl _) _, newest _ _⟩ ?_
  rintro w3 ⟨hb3, hk3⟩
  have HB3 := Lib.hid (HB2.out.trans (hb3.mono HB2.out.size))
  have HRI3 := Lib.hid (HRI.out.later hb3)
  have HK3 := Lib.hid hk3
  clear hb3 hk3
  go_wp2_with fail
  refine (M15.out _ HB3.out).mono ?_
  intro e w4 hp
  obtain ⟨hb4, nm', a', n', c', fa', m', fc', t', rfl, hri⟩ := rowPost_is hp
  have HB4 := Lib.hid (HB3.out.trans (hb4.mono HB3.out.size))
  have HRI4 := Lib.hid (HRI3.out.later hb4)
  have HRI4' := Lib.hid hri
  have hk4 := (hb4.block _ (lt_of_block HK3.out)).trans HK3.out
  have HK4 := Lib.hid hk4
  clear hp hb4 hri hk4
  go_upto_region 5 with (fail)
  refine wp_gen (fun wx => Below w4.heap.size w4 wx ∧ wx.heap[w4.heap.size]? = some (.cells #[.string nm', .slice a' n' c', .slice fa' m' fc', .int .i64 t'] 27 (0, 0))) ⟨(Below.refl _ _).alloc (Nat.le_refl _) _, newest _ _⟩ ?_
  rintro w5 ⟨hb5, hk5⟩
  have hk5' := (hb5.block _ (lt_of_block HK4.out)).trans HK4.out
  have d0 : w5.cell? ⟨w2.heap.size, 0, none⟩ = some (.string nm) := Lib.cell_of_heap hk5' 0
  have d1 : w5.cell? ⟨w2.heap.size, 1, none⟩ = some (.slice a n c) := Lib.cell_of_heap hk5' 1
  have d2 : w5.cell? ⟨w2.heap.size, 2, none⟩ = some (.slice fa m fc) := Lib.cell_of_heap hk5' 2
  have d3 : w5.cell? ⟨w2.heap.size, 3, none⟩ = some (.int .i64 t) := Lib.cell_of_heap hk5' 3
  have e0 : w5.cell? ⟨w4.heap.size, 0, none⟩ = some (.string nm') := Lib.cell_of_heap hk5 0
  have e1 : w5.cell? ⟨w4.heap.size, 1, none⟩ = some (.slice a' n' c') := Lib.cell_of_heap hk5 1
  have e2 : w5.cell? ⟨w4.heap.size, 2, none⟩ = some (.slice fa' m' fc') := Lib.cell_of_heap hk5 2
  have e3 : w5.cell? ⟨w4.heap.size, 3, none⟩ = some (.int .i64 t') := Lib.cell_of_heap hk5 3
  have HB5 := Lib.hid (HB4.out.trans (hb5.mono HB4.out.size))
  have MS := Lib.hid (RowIs.same c' fc' c fc (HRI4'.out.later hb5) (HRI4.out.later hb5) HSM.out)
  clear hb5 hk5 hk5'
  go_wp2_with fail
  refine MS.out.mono ?_
  rintro e w6 ⟨rfl, hb6⟩
  have HB6 := Lib.hid (HB5.out.trans (hb6.mono HB5.out.size))
  clear hb6
  go_wp2_with fail
  go_ret
  exact ⟨rfl, HB6.out⟩
end Go.Proofs.YtagiddbfhlokcaaGreatDoor.Ser
/- The witness world meets the rows' condition, plainly said. No condition. -/
namespace Go.Proofs.YtagiddbfhlokcaaGreatDoor.Laid
theorem metM (os : Os) (args : Array Value) : laidMet Tryz.prog lst ((World.laidAll Tryz.prog os lst).forCall (fun _ _ => 0) ⟨#[], args, []⟩).memory := laidMet_laidAll _ (fits os) (ifaces os)
end Go.Proofs.YtagiddbfhlokcaaGreatDoor.Laid
