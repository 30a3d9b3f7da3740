/- fmtEFG at 1.5's digits, by 'f'. No condition. -/
import Derived.Test.YtnnoefbmoafbnaaGreatDoorD
namespace Go.Proofs.YtnnoefbmoafbnaaGreatDoor
open Go.RowKit
set_option maxRecDepth 100000
theorem efg15f (w0 w1 : World) (g b : Nat) (h : St w0 g b [] w1) :
    Calls Tryz.prog 68 #[.slice (some ⟨g, 0, none⟩) 0 24, .bool false, .slice (some ⟨b, 0, none⟩) 32 32, .int .i64 1, .int .i64 2, .int .i64 1, .int .u8 102, .bool true] w1 fun e w' => e = .returned (.slice (some ⟨g, 0, none⟩) 3 24) ∧ St w0 g b [49, 46, 53] w' := by
  obtain ⟨i0, hi, hz0, hz1, hz2⟩ := info_parts info5
  have HI := Lib.hid hi
  have HZ1 := Lib.hid hz1
  have HS0 := Lib.hid h
  clear hi hz0 hz1 hz2 h
  have k0 := HS0.out.c0
  have mm0 : max (0 : Int) (-1) = 0 := by decide
  have mm1 : min (1 : Int) 0 = 0 := by decide
  have mm2 : max (0 : Int) 1 = 1 := by decide
  have mm3 : min (1 : Int) 1 = 1 := by decide
  go_enter Tryz.func68, Tryz.ntmps68
  go_wp2_with fail
  go_loopw [0, 25, 191] (fun v _ i wr => (v = .slice (some ⟨g, 0, none⟩) 0 24 ∧ i = .int .i64 0 ∧ wr = w1) ∨ (v = .slice (some ⟨g, 0, none⟩) 1 24 ∧ i = .int .i64 1 ∧ St w0 g b [49] wr)) (fun _ _ i _ => 1 - (intOf i).toNat)
  case atStart => exact .inl ⟨rfl, rfl, rfl⟩
  case round =>
    rcases hrel with ⟨rfl, rfl, hw⟩ | ⟨rfl, rfl, h1⟩
    · obtain rfl := hw.symm
      go_wp2_with ((at_builtin; go_must (refine wpList_append_fits _ rfl (.tmp 195) (.tmp 197) 76 rfl g 5 i0 1 Tryz.underlying76 HI.out HZ1.out g 0 24 (Lib.byteCells []) rfl (World.ownsRow.alloc HS0.out.own _) ⟨w1.heap.size, 0, none⟩ 1 1 [.int .u8 49] rfl rfl (World.news_of_block (cs := #[.int .u8 49]) (t := 5) (fr := (0, 0)) (heap_alloc_new w1 _)) (by simp [Value.oneCell']) (by omega) ?_); intro w2 hown hgrow; have HS1 := Lib.hid (HS0.out.app [49] hown hgrow); clear hown hgrow))
      go_roundw
      case rel => exact .inr ⟨rfl, by go_num, HS1.out⟩
      case measure => simp [intOf]
    · obtain ⟨wa, hwa⟩ : ∃ wa, wa = wr := ⟨_, rfl⟩
      subst hwa
      have HS1 := Lib.hid h1
      clear h1
      go_wp2_with fail
      go_loopw [0, 203] (fun v i wr => v = .slice (some ⟨g, 0, none⟩) 1 24 ∧ i = .int .i64 0 ∧ wr = wa) (fun _ _ _ => 0)
      case atStart => exact ⟨rfl, rfl, rfl⟩
      case round =>
        obtain ⟨rfl, rfl, hw⟩ := hrel
        obtain rfl := hw.symm
        go_wp2_with ((at_builtin; go_must (refine wpList_append_fits _ rfl (.tmp 214) (.tmp 215) 76 rfl g 5 i0 1 Tryz.underlying76 HI.out HZ1.out g 1 24 (Lib.byteCells [49]) rfl (World.ownsRow.alloc HS1.out.own _) ⟨wa.heap.size, 0, none⟩ 1 1 [.int .u8 46] rfl rfl (World.news_of_block (cs := #[.int .u8 46]) (t := 5) (fr := (0, 0)) (heap_alloc_new wa _)) (by simp [Value.oneCell']) (by omega) ?_); intro w3 hown hgrow; have HS2 := Lib.hid (HS1.out.app [46] hown hgrow); clear hown hgrow))
        go_loopw [0, 240] (fun v i wr => v = .slice (some ⟨g, 0, none⟩) 2 24 ∧ i = .int .i64 0 ∧ wr = w3) (fun _ _ _ => 0)
        case atStart => exact ⟨rfl, rfl, rfl⟩
        case round =>
          obtain ⟨rfl, rfl, hw⟩ := hrel
          obtain rfl := hw.symm
          go_wp2_with fail
          go_loopw [0, 30, 247] (fun v _ i wr => (v = .slice (some ⟨g, 0, none⟩) 2 24 ∧ i = .int .i64 0 ∧ wr = w3) ∨ (v = .slice (some ⟨g, 0, none⟩) 3 24 ∧ i = .int .i64 1 ∧ St w0 g b [49, 46, 53] wr)) (fun _ _ i _ => 1 - (intOf i).toNat)
          case atStart => exact .inl ⟨rfl, rfl, rfl⟩
          case round =>
            rcases hrel with ⟨rfl, rfl, hw⟩ | ⟨rfl, rfl, h1⟩
            · obtain rfl := hw.symm
              have k1 := HS2.out.c1
              go_wp2_with ((at_builtin; go_must (refine wpList_append_fits _ rfl (.tmp 250) (.tmp 257) 76 rfl g 5 i0 1 Tryz.underlying76 HI.out HZ1.out g 2 24 (Lib.byteCells [49, 46]) rfl (World.ownsRow.alloc HS2.out.own _) ⟨w3.heap.size, 0, none⟩ 1 1 [.int .u8 53] rfl rfl (World.news_of_block (cs := #[.int .u8 53]) (t := 5) (fr := (0, 0)) (heap_alloc_new w3 _)) (by simp [Value.oneCell']) (by omega) ?_); intro w4 hown hgrow; have HS3 := Lib.hid (HS2.out.app [53] hown hgrow); clear hown hgrow))
              go_roundw
              case rel => exact .inr ⟨rfl, by go_num, HS3.out⟩
              case measure => simp [intOf]
            · obtain ⟨wb, hwb⟩ : ∃ wb, wb = wr := ⟨_, rfl⟩
              subst hwb
              have HS3 := Lib.hid h1
              clear h1
              go_wp2_with fail
              go_loopw [0, 261] (fun v i wr => v = .slice (some ⟨g, 0, none⟩) 3 24 ∧ i = .int .i64 0 ∧ wr = wb) (fun _ _ _ => 0)
              case atStart => exact ⟨rfl, rfl, rfl⟩
              case round =>
                obtain ⟨rfl, rfl, hw⟩ := hrel
                obtain rfl := hw.symm
                go_wp2_with fail
                go_ret
                exact ⟨rfl, HS3.out⟩
end Go.Proofs.YtnnoefbmoafbnaaGreatDoor