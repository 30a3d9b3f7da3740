/- Escaping by the reference, as the code computes it. Condition: the text's length (2^46 bytes at most). -/
import Derived.Test.YtobcpafalfdpkaaB
namespace Go.Proofs.Ytobcpafalfdpkaa
open Go.RowKit
def BOwn (w : World) (base : Nat) (v : Value) (l : List UInt8) : Prop := w.ownsRow base 5 1 v l.length (Lib.byteCells l)
theorem str_of_own {w : World} {base : Nat} {v : Value} {l : List UInt8} (h : BOwn w base v l) : (convert 105 9 v).run Try.prog w = .ok (.string ⟨l.toArray⟩) w := by
  rcases h.2 with ⟨rfl, h0⟩ | ⟨g, cap, cur, rfl, _⟩
  · have : l = [] := List.length_eq_zero_iff.1 h0
    subst this
    rw [run_convert_bytes_string w 105 9 5 none 0 0 Try.underlying105 Try.underlying5 Try.underlying9]
    rfl
  · refine run_convert_bytes_back w 105 9 5 ⟨g, 0, none⟩ cap l Try.underlying105 Try.underlying5 Try.underlying9 fun j hj => ?_
    have := h.cellAt j (by omega)
    have e : (Addr.add ⟨g, 0, none⟩ j) = ⟨g, j, none⟩ := by unfold Addr.add; split <;> simp_all
    rw [e, this]
    simp [Lib.byteCells, hj]
theorem BOwn.nil (w : World) (base : Nat) : BOwn w base (.slice none 0 0) [] := World.ownsRow_nil _ _ _ _
theorem BOwn.snoc {w : World} {base n : Nat} {v : Value} {l : List UInt8} {c : UInt8} {xs : List Value} (h : w.ownsRow base 5 1 v n xs) (hn : n = l.length + 1) (hx : xs = Lib.byteCells l ++ [.int .u8 c.toNat]) : BOwn w base v (l ++ [c]) := by
  subst hn hx
  unfold BOwn
  have e1 : (l ++ [c]).length = l.length + 1 := by simp
  rw [e1, byteCells_app]
  exact h
theorem own_ge {w : World} {base e size n b : Nat} {v : Value} {xs : List Value} (h : w.ownsRow base e size v n xs) (hb : v.ownBlock = some b) : base ≤ b := by
  rcases h.2 with ⟨rfl, _⟩ | ⟨g, cap, cur, rfl, hg, _⟩
  · simp [Value.ownBlock] at hb
  · simp [Value.ownBlock] at hb; omega
def InREsc (s : ByteArray) (w : World) (v i : Value) (wr : World) : Prop := ∃ k : Nat, k ≤ s.size ∧ i = .int .i64 k ∧ BOwn wr w.heap.size v (esc (s.data.toList.take k)) ∧ Below w.heap.size w wr
theorem rescape (s : ByteArray) (w : World) (hs : s.size ≤ 70368744177664) : Calls Try.prog 66 #[.string s] w (Esced s w) := by
  obtain ⟨i0, hi, hz0, hz1, hz2⟩ := info_parts info5
  have HI := Lib.hid hi
  have HZ0 := Lib.hid hz0
  have HZ1 := Lib.hid hz1
  have HZ2 := Lib.hid hz2
  clear hi hz0 hz1 hz2
  go_enter Try.func66, Try.ntmps66
  go_wp2
  go_loopw [3, 4] (fun v i wr => InREsc s w v i wr) (fun _ i _ => s.size - (intOf i).toNat)
  case atStart => exact ⟨0, Nat.zero_le _, rfl, BOwn.nil _ _, Below.refl _ _⟩
  case round =>
    obtain ⟨k, hk, rfl, hown, hb⟩ := hrel
    have HO := Lib.hid hown
    have HB := Lib.hid hb
    clear hown hb
    have hle := esc_take_le s k
    by_cases hlt : k < s.size
    · obtain ⟨c, hcc⟩ : ∃ c, s[k] = c := ⟨_, rfl⟩
      have HT := Lib.hid (take_snoc s k hlt)
      rw [hcc] at HT
      have hsz := HB.out.size
      cases hsp : spec c with
      | true =>
        have HS := Lib.hid hsp
        go_wp2_with fail
        refine (special c _).mono ?_
        rintro e w1 ⟨rfl, rfl⟩
        go_wp2_with (first
          | (at_builtin; refine wpList_append_own _ rfl (.tmp 15) (.tmp 16) 105 rfl w.heap.size 5 i0 _ 1 1 Try.underlying105 HI.out HZ0.out HZ1.out HZ2.out rfl (by omega) _ (esc (s.data.toList.take k)).length _ rfl (World.ownsRow.alloc HO.out _) ⟨wr.heap.size, 0, none⟩ 1 1 [.int .u8 92] rfl rfl (World.news_of_block (cs := #[.int .u8 92]) (t := 5) (fr := (0, 0)) (heap_alloc_new wr _)) (by simp [Value.oneCell']) (by unfold maxLen; omega) (by omega) (by simp; omega) ?_; intro v1 w2 hown1 hgrow1 hnn; clear hnn)
          | (at_builtin; go_must (refine wpList_append_own _ rfl (.tmp 18) (.tmp 22) 105 rfl w.heap.size 5 i0 _ 1 1 Try.underlying105 HI.out HZ0.out HZ1.out HZ2.out rfl (by omega) _ ((esc (s.data.toList.take k)).length + 1) _ rfl (hown1.alloc _) ⟨w2.heap.size, 0, none⟩ 1 1 [.int .u8 c.toNat] rfl rfl (World.news_of_block (cs := #[.int .u8 c.toNat]) (t := 5) (fr := (0, 0)) (heap_alloc_new w2 _)) (by simp [Value.oneCell']) (by unfold maxLen; omega) (by omega) (by have := hgrow1.size; simp at this ⊢; omega) ?_); intro v2 w3 hown2 hgrow2 hnn; clear hnn))
        have hb2 := (HB.out.alloc hsz _).grown hgrow1 (by simp; omega) (fun j hj => own_ge HO.out hj)
        have hb3 := (hb2.alloc hb2.size _).grown hgrow2 (by have := hb2.size; simp; omega) (fun j hj => own_ge hown1 hj)
        have HO2 := Lib.hid hown2
        have HB3 := Lib.hid hb3
        clear hb2 hb3 hown1 hown2 hgrow1 hgrow2
        go_wp2
        go_roundw
        case rel => exact ⟨k + 1, by omega, by go_num, by rw [HT.out, esc_snoc, show esc1 c = [92] ++ [c] from by simp [esc1, HS.out], ← List.append_assoc]; exact BOwn.snoc HO2.out (by simp) (by rw [byteCells_app]; simp [Lib.byteCells]), HB3.out⟩
        case measure => simp [intOf]; omega
      | false =>
        have HS := Lib.hid hsp
        go_wp2_with fail
        refine (special c _).mono ?_
        rintro e w1 ⟨rfl, rfl⟩
        go_wp2_with (at_builtin; go_must (refine wpList_append_own _ rfl (.tmp 18) (.tmp 22) 105 rfl w.heap.size 5 i0 _ 1 1 Try.underlying105 HI.out HZ0.out HZ1.out HZ2.out rfl (by omega) _ (esc (s.data.toList.take k)).length _ rfl (World.ownsRow.alloc HO.out _) ⟨wr.heap.size, 0, none⟩ 1 1 [.int .u8 c.toNat] rfl rfl (World.news_of_block (cs := #[.int .u8 c.toNat]) (t := 5) (fr := (0, 0)) (heap_alloc_new wr _)) (by simp [Value.oneCell']) (by unfold maxLen; omega) (by omega) (by simp; omega) ?_); intro v1 w2 hown1 hgrow1 hnn; clear hnn)
        have hb2 := (HB.out.alloc hsz _).grown hgrow1 (by simp; omega) (fun j hj => own_ge HO.out hj)
        have HO1 := Lib.hid hown1
        have HB2 := Lib.hid hb2
        clear hb2 hown1 hgrow1
        go_wp2
        go_roundw
        case rel => exact ⟨k + 1, by omega, by go_num, by rw [HT.out, esc_snoc, show esc1 c = [c] from by simp [esc1, HS.out]]; exact BOwn.snoc HO1.out rfl rfl, HB2.out⟩
        case measure => simp [intOf]; omega
    · have hke : k = s.size := by omega
      have HK := Lib.hid (show s.data.toList.take k = s.data.toList by rw [hke, List.take_of_length_le (by simp)])
      have hcv := str_of_own HO.out
      clear hke
      go_wp2
      go_ret
      rw [HK.out]
      exact ⟨rfl, HB.out⟩
end Go.Proofs.Ytobcpafalfdpkaa
