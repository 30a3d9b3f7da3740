/- The walk of LexLong. No condition. -/
import Derived.Test.YtcmdcdjclmpncaaW
import Derived.Deep.OwnRows
namespace Go.Proofs.Ytcmdcdjclmpncaa
open Go.RowKit Go.Deep Go.WideShapes Go.ChangeShapes Go.Joins
def fillF (k : Nat) (c : Int) : Nat → Value := fun j => if j < k then .int .u8 c else .int .u8 0
def InFill (b m : Nat) (c : Int) (w : World) (i : Value) (wr : World) : Prop := ∃ k : Nat, k ≤ m ∧ i = .int .i64 k ∧ wr.rowIs b 5 m (fillF k c) ∧ Below w.heap.size w wr
theorem fill_next {w : World} {b m k : Nat} {c : Int} (h : w.rowIs b 5 m (fillF k c)) : (w.setCell ⟨b, k, none⟩ (.int .u8 c)).rowIs b 5 m (fillF (k + 1) c) := by
  refine (h.set k (.int .u8 c)).congr ?_
  intro i hi
  unfold fillF
  by_cases h1 : i = k
  · rw [if_pos h1, if_pos (by omega)]
  · rw [if_neg h1]
    by_cases h2 : i < k
    · rw [if_pos h2, if_pos (by omega)]
    · rw [if_neg h2, if_neg (by omega)]
theorem conv_fill {w : World} {b m : Nat} {c : UInt8} (h : w.rowIs b 5 m (fillF m (c.toNat : Int))) : (convert 37 9 (.slice (some ⟨b, 0, none⟩) m m)).run Try.prog w = .ok (.string (ofL (List.replicate m c))) w := by
  have := run_convert_bytes_back w 37 9 5 ⟨b, 0, none⟩ m (List.replicate m c) Try.underlying37 Try.underlying5 Try.underlying9 (fun j hj => by
    have hj' : j < m := by simpa using hj
    have h1 := h.cell hj'
    have e : (Addr.add ⟨b, 0, none⟩ j) = ⟨b, j, none⟩ := by unfold Addr.add; split <;> simp_all
    rw [e, h1]
    simp [fillF, hj'])
  simpa [ofL] using this
theorem below_row {w wr : World} {b k : Nat} (h : Below w.heap.size w wr) (hb : w.heap.size ≤ b) (u : Value) : Below w.heap.size w (wr.setCell ⟨b, k, none⟩ u) := h.setCell hb _
set_option maxRecDepth 100000 in
set_option maxHeartbeats 2000000 in
theorem lexLong_walk (H : Type) (enc : TypeId × Value → H) (W : World) (base : Nat) (v0 v1 : Value) (d0 d1 : DataW H) (p0 p1 : List MemPlace) (h0 : DataW.Trod enc Try.prog W 0 (fun _ => true) true 36 v0 d0 p0) (o0 : Value.okWide Try.prog W .any base 36 v0) (h1 : DataW.Trod enc Try.prog W 0 (fun _ => true) true 5 v1 d1 p1) (o1 : Value.okWide Try.prog W .any base 5 v1) :
    Calls Try.prog 5 #[v0, v1] W fun e w' => e = .returned (.bool true) ∧ Below W.heap.size W w' := by
  obtain ⟨n, rfl, rfl, rfl, wn⟩ := open_int Try.underlying36 o0 h0
  obtain ⟨g, rfl, rfl, rfl, wg⟩ := open_int Try.underlying5 o1 h1
  have hn : 0 ≤ n ∧ n ≤ 65535 := by
    simp only [Lit.wf, Bool.and_eq_true, decide_eq_true_eq] at wn
    exact wn
  have hg : 0 ≤ g ∧ g ≤ 255 := by
    simp only [Lit.wf, Bool.and_eq_true, decide_eq_true_eq] at wg
    exact wg
  obtain ⟨hn0, hn1⟩ := hn
  obtain ⟨hg0, hg1⟩ := hg
  clear h0 o0 h1 o1 wn wg
  obtain ⟨m, hm⟩ : ∃ m : Nat, 65000 + n % 1000 = (m : Int) := ⟨(65000 + n % 1000).toNat, by omega⟩
  obtain ⟨d, hd⟩ : ∃ d : Nat, 1 + g % 60 = (d : Int) := ⟨(1 + g % 60).toNat, by omega⟩
  have hm1 : m ≤ 66000 := by omega
  have hd1 : 1 ≤ d := by omega
  have hd2 : d ≤ 60 := by omega
  have hmk := fun w => run_make_row' (P := Try.prog) 37 5 (.int .u8 0) 1 Try.underlying37 info5 rfl .i64 .i64 m (by omega) (by omega) w
  have hmk2 := fun w => run_make_row' (P := Try.prog) 37 5 (.int .u8 0) 1 Try.underlying37 info5 rfl .i64 .i64 d (by omega) (by omega) w
  go_enter Try.func5, Try.ntmps5
  go_wp2_with fail
  refine (awake7 _).mono ?_
  rintro e w1 ⟨rfl, hb⟩
  have hr1 : (w1.alloc (.cells (madeCells #[.int .u8 0] m) 5)).rowIs w1.heap.size 5 m (fillF 0 32) := (World.rowIs_made w1 (.int .u8 0) m 5).congr (fun i _ => by simp [fillF])
  have HB1 := Lib.hid (hb.alloc hb.size (.cells (madeCells #[.int .u8 0] m) 5))
  have hsz1 := hb.size
  obtain ⟨w2, hw2⟩ : ∃ w2, w1.alloc (.cells (madeCells #[.int .u8 0] m) 5) = w2 := ⟨_, rfl⟩
  rw [hw2] at hr1 HB1
  have HR1 := Lib.hid hr1
  clear hb hr1
  go_wp2_with fail
  clear hw2 hm hmk
  go_loopw [25] (fun i wr => InFill w1.heap.size m 32 W i wr) (fun i _ => m - (intOf i).toNat)
  case atStart => exact ⟨0, Nat.zero_le _, rfl, HR1.out, HB1.out⟩
  case round =>
    obtain ⟨k, hk, rfl, hrow, hb⟩ := hrel
    have HROW := Lib.hid hrow
    have HB := Lib.hid hb
    by_cases hlt : k < m
    · have c0 : wr.cell? ⟨w1.heap.size, k, none⟩ = some (fillF k 32 k) := hrow.cell hlt
      have f0 : wr.frozen? ⟨w1.heap.size, k, none⟩ = false := hrow.frozen k
      have hv : fillF k 32 k = .int .u8 0 := by simp [fillF]
      rw [hv] at c0
      have hi0 : (0 : Int) ≤ (k : Int) := by omega
      have hi1 : (k : Int) < (m : Int) := by omega
      clear hrow hb hv
      go_wp2_with fail
      go_roundw
      case rel => exact ⟨k + 1, hlt, by go_num, fill_next HROW.out, below_row HB.out (by omega) _⟩
      case measure => simp [intOf]; omega
    · have hke : k = m := by omega
      have hcv := conv_fill (c := 32) (show wr.rowIs w1.heap.size 5 m (fillF m 32) by rw [hke] at hrow; exact hrow)
      have hsz := hb.size
      have HLL := Lib.hid (ofL_list (List.replicate m 32))
      have HTB := Lib.hid (tokens_blanks m)
      obtain ⟨T, hT⟩ : ∃ T, ofL (List.replicate m 32) = T := ⟨_, rfl⟩
      have hzT : T.size ≤ 66000 := by rw [← hT, ofL_size]; simp; omega
      rw [hT] at hcv HLL
      clear hrow hb hke hT
      go_wp2_with fail
      clear hcv
      with_reducible refine (tokens9 T _ (by omega)).mono ?_
      intro e w3 hp
      rw [HLL.out] at hp
      obtain ⟨a, cap, rfl, hta, hb⟩ := tokPost_cases hp
      have HB3 := Lib.hid (HB.out.trans (hb.mono hsz))
      have hsz3 := HB3.out.size
      have hr1 : (w3.alloc (.cells (madeCells #[.int .u8 0] d) 5)).rowIs w3.heap.size 5 d (fillF 0 55) := (World.rowIs_made w3 (.int .u8 0) d 5).congr (fun i _ => by simp [fillF])
      have HB4 := Lib.hid (HB3.out.alloc hsz3 (.cells (madeCells #[.int .u8 0] d) 5))
      obtain ⟨w4, hw4⟩ : ∃ w4, w3.alloc (.cells (madeCells #[.int .u8 0] d) 5) = w4 := ⟨_, rfl⟩
      rw [hw4] at hr1 HB4
      have HR4 := Lib.hid hr1
      have hTE : (tokens (List.replicate m 32)).2 = (if 65536 < m then 4 else 0) ∧ tokP (tokens (List.replicate m 32)) = 0 := by
        rw [HTB.out]
        by_cases hbig : 65536 < m
        · rw [if_pos hbig, if_pos hbig]; exact ⟨rfl, rfl⟩
        · rw [if_neg hbig, if_neg hbig]; exact ⟨rfl, rfl⟩
      obtain ⟨E, hE⟩ : ∃ E, (tokens (List.replicate m 32)).2 = E := ⟨_, rfl⟩
      rw [hTE.2, hE]
      rw [hE] at hTE
      have HE := Lib.hid hTE.1
      clear hp hta hb hr1 hTE hE
      generalize (tokL (tokens (List.replicate m 32))).length = LN
      go_wp2_with fail
      clear hw4 hd hmk2
      go_loopw [46] (fun i wr => InFill w3.heap.size d 55 W i wr) (fun i _ => d - (intOf i).toNat)
      case atStart => exact ⟨0, Nat.zero_le _, rfl, HR4.out, HB4.out⟩
      case round =>
        obtain ⟨k, hk, rfl, hrow, hb⟩ := hrel
        have HROW := Lib.hid hrow
        have HB := Lib.hid hb
        by_cases hlt : k < d
        · have c0 : wr.cell? ⟨w3.heap.size, k, none⟩ = some (fillF k 55 k) := hrow.cell hlt
          have f0 : wr.frozen? ⟨w3.heap.size, k, none⟩ = false := hrow.frozen k
          have hv : fillF k 55 k = .int .u8 0 := by simp [fillF]
          rw [hv] at c0
          have hi0 : (0 : Int) ≤ (k : Int) := by omega
          have hi1 : (k : Int) < (d : Int) := by omega
          clear hrow hb hv
          go_wp2_with fail
          go_roundw
          case rel => exact ⟨k + 1, hlt, by go_num, fill_next HROW.out, below_row HB.out (by omega) _⟩
          case measure => simp [intOf]; omega
        · have hke : k = d := by omega
          have hcv := conv_fill (c := 55) (show wr.rowIs w3.heap.size 5 d (fillF d 55) by rw [hke] at hrow; exact hrow)
          have hsz := hb.size
          have HTS := Lib.hid (tokens_sevens d hd1 hd2)
          obtain ⟨T, hT⟩ : ∃ T, ofL (List.replicate d 55) = T := ⟨_, rfl⟩
          have hzT : T.size ≤ 60 := by rw [← hT, ofL_size]; simp; omega
          have HLL : Hid (({ data := #[120, 32] } ++ T : ByteArray).data.toList = 120 :: 32 :: List.replicate d 55) := Lib.hid (by rw [← hT]; simp [ByteArray.data_append, ofL])
          rw [hT] at hcv
          clear hrow hb hke hT
          go_wp2_with fail
          clear hcv
          with_reducible refine (tokens9 ({ data := #[120, 32] } ++ T) _ (by rw [ByteArray.size_append, show (⟨#[120, 32]⟩ : ByteArray).size = 2 from rfl]; omega)).mono ?_
          intro e w5 hp
          rw [HLL.out] at hp
          obtain ⟨a2, cap2, rfl, hta, hb⟩ := tokPost_cases hp
          have HB5 := Lib.hid (HB.out.trans (hb.mono hsz))
          clear hp hta hb
          rw [HTS.out]
          by_cases hbig : 65536 < m
          · have hE : E = 4 := by rw [HE.out, if_pos hbig]
            subst hE
            have hbi : decide ((m : Int) ≤ 65536) = false := by simp; omega
            by_cases h40 : d ≤ 40
            · rw [if_pos h40, show tokP (Except.ok [(1, ofL [120], 0), (3, ofL (List.replicate d 55), 2)], 0) = 0 from rfl, show (tokL (Except.ok [(1, ofL [120], 0), (3, ofL (List.replicate d 55), 2)], 0)).length = 2 from rfl]
              have h40i : (d : Int) ≤ 40 := by omega
              clear h40 hbig
              go_wp2_with fail
              go_ret
              exact ⟨rfl, HB5.out⟩
            · rw [if_neg h40, show tokP (Except.error 2, 2) = 2 from rfl, show (tokL (Except.error 2, 2)).length = 0 from rfl]
              have h40i : ¬ (d : Int) ≤ 40 := by omega
              clear h40 hbig
              go_wp2_with fail
              go_ret
              exact ⟨rfl, HB5.out⟩
          · have hE : E = 0 := by rw [HE.out, if_neg hbig]
            subst hE
            have hbi : (m : Int) ≤ 65536 := by omega
            by_cases h40 : d ≤ 40
            · rw [if_pos h40, show tokP (Except.ok [(1, ofL [120], 0), (3, ofL (List.replicate d 55), 2)], 0) = 0 from rfl, show (tokL (Except.ok [(1, ofL [120], 0), (3, ofL (List.replicate d 55), 2)], 0)).length = 2 from rfl]
              have h40i : (d : Int) ≤ 40 := by omega
              clear h40 hbig
              go_wp2_with fail
              go_ret
              exact ⟨rfl, HB5.out⟩
            · rw [if_neg h40, show tokP (Except.error 2, 2) = 2 from rfl, show (tokL (Except.error 2, 2)).length = 0 from rfl]
              have h40i : ¬ (d : Int) ≤ 40 := by omega
              clear h40 hbig
              go_wp2_with fail
              go_ret
              exact ⟨rfl, HB5.out⟩
end Go.Proofs.Ytcmdcdjclmpncaa
