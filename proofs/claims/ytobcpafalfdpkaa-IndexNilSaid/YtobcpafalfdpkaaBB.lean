/- A text is put into a rising list, once. Condition: the list's length. -/
import Derived.Test.YtobcpafalfdpkaaBA
import Derived.Test.YtobcpafalfdpkaaV
import Derived.WalkLawsBesides
import Derived.WalkSpells
import Derived.Deep.RegionLaw
namespace Go.Proofs.Ytobcpafalfdpkaa
open Go.RowKit Go.WideMaps Go.Sort
/-- Where a text stands in a rising list. -/
def PlaceS (T : List BA) (s : BA) (k : Nat) : Prop := k ≤ T.length ∧ (∀ j t, j < k → T[j]? = some t → sLt t s) ∧ ∀ t, T[k]? = some t → ¬ sLt t s
def PutS (T : List BA) (s : BA) (U : List BA) : Prop := ∃ k, PlaceS T s k ∧ ((T[k]? = some s ∧ U = T) ∨ (T[k]? ≠ some s ∧ U = T.take k ++ s :: T.drop k))
theorem str_one (T : List BA) : ∀ u ∈ T.map Value.string, u.oneCell' = true := fun u hu => by
  obtain ⟨_, _, rfl⟩ := List.mem_map.1 hu; rfl
def PutPost (base : Nat) (w : World) (T : List BA) (s : BA) (e : Ending) (w' : World) : Prop := ∃ v U, e = .returned v ∧ PutS T s U ∧ w'.ownsRow base 9 1 v U.length (U.map Value.string) ∧ Below w.heap.size w w'
set_option maxRecDepth 100000 in
set_option maxHeartbeats 1000000 in
theorem put48 {w : World} {base n : Nat} {v : Value} {T : List BA} (s : BA) (hrow : w.ownsRow base 9 1 v n (T.map Value.string)) (hT : T.length = n) (hbase : base ≤ w.heap.size) (hn : n ≤ 4000000000000) :
    Calls Try.prog 48 #[v, .string s] w (PutPost base w T s) := by
  obtain ⟨a, cap, rfl⟩ := row_form hrow
  obtain ⟨i0, hi, hz0, hz1, hz2⟩ := info_parts zinfo9
  have HI := Lib.hid hi
  have HZ0 := Lib.hid hz0
  have HZ1 := Lib.hid hz1
  have HZ2 := Lib.hid hz2
  have HROW := Lib.hid hrow
  have HT := Lib.hid hT
  have HBASE := Lib.hid hbase
  have HCELL : Hid (∀ k t, T[k]? = some t → ∃ g, a = some ⟨g, 0, none⟩ ∧ w.cell? ⟨g, k, none⟩ = some (.string t)) := Lib.hid fun k t ht => str_cell hrow hT ht
  have HSL : Hid (∀ k, k ≤ n → ∃ a2 : Option Addr, (∀ w', (Instr.slice 32 (.slice a n cap) none (some (.int .i64 (k : Int))) none).run Try.prog w' = .ok (.slice a k cap) w') ∧ (∀ w', (Instr.slice 32 (.slice a n cap) (some (.int .i64 (k : Int))) none none).run Try.prog w' = .ok (.slice a2 (n - k) (cap - k)) w') ∧ SrcN w 1 (.slice a k cap) k ((T.take k).map Value.string) ∧ SrcN w 1 (.slice a2 (n - k) (cap - k)) (n - k) ((T.drop k).map Value.string)) := Lib.hid fun k hk => by
    obtain ⟨h1, h2⟩ := cut_src hrow hk (str_one T)
    rw [Nat.mul_one] at h1 h2
    exact ⟨cutA a cap k 1, slice32to a hk (row_cap hrow), slice32from a hk (row_cap hrow), by rw [List.map_take]; exact h1, by rw [List.map_drop]; exact h2⟩
  clear hi hz0 hz1 hz2 hrow hT hbase
  go_enter Try.func48, Try.ntmps48
  go_wp2_with fail
  go_loopw [5] (fun i wr => ∃ k : Nat, k ≤ n ∧ i = .int .i64 k ∧ Hid (∀ j t, j < k → T[j]? = some t → sLt t s) ∧ w = wr) (fun i _ => n - (intOf i).toNat)
  case atStart => exact ⟨0, Nat.zero_le _, rfl, Lib.hid (fun j t hj => by omega), rfl⟩
  case round =>
    obtain ⟨k, hk, rfl, hall, rfl⟩ := hrel
    have HALL := Lib.hid hall
    clear hall
    have hcase : (∃ t, T[k]? = some t ∧ k < n ∧ Op.bytesLess t.toList s.toList = true) ∨ (∃ t, T[k]? = some t ∧ k < n ∧ Op.bytesLess t.toList s.toList = false ∧ (t.toList == s.toList) = true) ∨ (∃ t, T[k]? = some t ∧ k < n ∧ Op.bytesLess t.toList s.toList = false ∧ (t.toList == s.toList) = false) ∨ k = n := by
      by_cases hlt : k < n
      · have hx' := List.getElem?_eq_getElem (l := T) (i := k) (by rw [HT.out]; exact hlt)
        cases hq : Op.bytesLess (T[k]'(by rw [HT.out]; exact hlt)).toList s.toList with
        | true => exact .inl ⟨_, hx', hlt, hq⟩
        | false =>
          cases he : ((T[k]'(by rw [HT.out]; exact hlt)).toList == s.toList) with
          | true => exact .inr (.inl ⟨_, hx', hlt, hq, he⟩)
          | false => exact .inr (.inr (.inl ⟨_, hx', hlt, hq, he⟩))
      · exact .inr (.inr (.inr (by omega)))
    rcases hcase with ⟨t, ht, hlt, hq⟩ | ⟨t, ht, hlt, hq, he⟩ | ⟨t, ht, hlt, hq, he⟩ | hkn
    · obtain ⟨g, rfl, hc⟩ := HCELL.out k t ht
      have HX := Lib.hid ht
      have HE := Lib.hid (show sLt t s by unfold sLt; simpa [ByteArray.toList_eq] using hq)
      have hd : decide ((k : Int) < (n : Int)) = true := by simp; omega
      clear ht
      go_wp2_with fail
      go_roundw
      case rel =>
        refine ⟨k + 1, by omega, by go_num, Lib.hid ?_, trivial⟩
        intro j t' hj hj'
        by_cases hjk : j = k
        · subst hjk
          have h2 := HX.out
          rw [h2] at hj'
          injection hj' with hj'
          rw [← hj']; exact HE.out
        · exact HALL.out.out j t' (by omega) hj'
      case measure => simp [intOf]; omega
    · obtain ⟨g, rfl, hc⟩ := HCELL.out k t ht
      have hts : t = s := by rw [beq_iff_eq, ByteArray.toList_eq, ByteArray.toList_eq] at he; exact ba_eq he
      have HP := Lib.hid (show PutS T s T from ⟨k, ⟨by rw [HT.out]; omega, HALL.out.out, fun t' ht' => by
        rw [ht] at ht'; injection ht' with e; rw [← e, hts]; exact sLt_irr s⟩, .inl ⟨by rw [ht, hts], rfl⟩⟩)
      have hd : decide ((k : Int) < (n : Int)) = true := by simp; omega
      clear ht hts
      go_wp2_with fail
      go_ret
      exact ⟨_, T, rfl, HP.out, by rw [HT.out]; exact HROW.out, Below.refl _ _⟩
    case' inr.inr.inl =>
      obtain ⟨g, rfl, hc⟩ := HCELL.out k t ht
      have HP := Lib.hid (show PutS T s (T.take k ++ s :: T.drop k) from ⟨k, ⟨by rw [HT.out]; omega, HALL.out.out, fun t' ht' => by
        rw [ht] at ht'; injection ht' with e; rw [← e]; unfold sLt; rw [← ByteArray.toList_eq, ← ByteArray.toList_eq, hq]; exact Bool.false_ne_true⟩, .inr ⟨(by
          rw [ht]; intro e; injection e with e; rw [e] at he; simp at he), rfl⟩⟩)
      have hd : decide ((k : Int) < (n : Int)) = true := by simp; omega
      have hk0 : k ≤ n := hk
      clear ht
    case' inr.inr.inr =>
      have HP := Lib.hid (show PutS T s (T.take k ++ s :: T.drop k) from ⟨k, ⟨by rw [HT.out]; omega, HALL.out.out, fun t' ht' => by
        rw [List.getElem?_eq_none (by rw [HT.out]; omega)] at ht'; cases ht'⟩, .inr ⟨(by
          rw [List.getElem?_eq_none (by rw [HT.out]; omega)]; intro e; cases e), rfl⟩⟩)
      have hd : decide (k < n) = false := by simp; omega
      have hnl : n ≤ k := by omega
      have hk0 : k ≤ n := hk
      clear hkn
    all_goals
      obtain ⟨a2, hs1, hs2, hr1, hr2⟩ := HSL.out k hk0
      have HR1 := Lib.hid hr1
      have HR2 := Lib.hid hr2
      have hmade := World.ownsRow_made (w := w) (base := base) (e := 9) (size := 1) #[] 0 HBASE.out (by unfold maxLen; omega) rfl
      have hb2 : Below w.heap.size w (w.alloc (.cells #[] 9)) := (Below.refl w.heap.size w).alloc (Nat.le_refl _) _
      have HR1' := Lib.hid (HR1.out.later hb2)
      have HM0 := Lib.hid hmade
      have HB2 := Lib.hid hb2
      clear hr1 hr2 hmade hb2
      go_wp2_with (at_builtin; go_must (refine wpList_append_srcN rfl _ _ 32 rfl base 9 i0 (.string ⟨#[]⟩) 1 16 Try.underlying32 HI.out HZ0.out HZ1.out HZ2.out (by rfl) (by omega) (.slice (some ⟨w.heap.size, 0, none⟩) 0 0) 0 [] rfl HM0.out _ k ((T.take k).map Value.string) rfl HR1'.out (by unfold maxLen; omega) (by omega) (by exact Nat.le_trans HBASE.out HB2.out.size) ?_); intro v3 w3 hr3 hg3 hat3)
      simp only [Nat.zero_add, List.nil_append] at hr3
      obtain ⟨a3, c3, rfl⟩ := row_form hr3
      have hown3 : ∀ b, (Value.slice a3 k c3).ownBlock = some b → w.heap.size ≤ b := fun b hb => by
        rcases hat3 with h1 | h1
        · have h2 := hb.symm.trans h1
          simp [Value.ownBlock] at h2
          omega
        · have h2 := hb.symm.trans h1
          simp at h2
          omega
      have hb3 : Below w.heap.size w w3 := HB2.out.grown hg3 HB2.out.size (fun b hb => by simp [Value.ownBlock] at hb; omega)
      have HR3 := Lib.hid hr3
      have HB3 := Lib.hid hb3
      have HO3 := Lib.hid hown3
      clear hr3 hb3 hown3 hg3 hat3 hs1 HM0 HR1'
      try clear hnl
      go_region_law
        (first
          | ((refine step_append_srcN (by rfl) _ _ 32 (by rfl) base 9 i0 (.string ⟨#[]⟩) 1 16 Try.underlying32 HI.out HZ0.out HZ1.out HZ2.out (by rfl) (by omega) (.slice a3 k c3) k ((T.take k).map Value.string) (by rfl) (by first | exact (HR3.out.alloc _).drew | exact HR3.out.alloc _) (.slice (some ⟨w3.heap.size, 0, none⟩) 1 1) 1 [.string s] (by rfl) (SrcN.of_block (cs := #[.string s]) (heap_alloc_new w3 _) rfl (by simp [Value.oneCell']) 1) (by unfold maxLen; omega) (by omega) (by have := HB3.out.size; have := HBASE.out; simp; omega) ?_; intro a4 c4 w4 hr4 hg4 hat4; have hb4 := (HB3.out.alloc HB3.out.size _).drew.grown hg4 (by have := HB3.out.size; simp; omega) (fun b hb => HO3.out b hb); have HB4 := Lib.hid hb4; have HR4 := Lib.hid hr4; have HO4 := Lib.hid (show ∀ b, (Value.slice a4 (k + 1) c4).ownBlock = some b → w.heap.size ≤ b from fun b hb => by rcases hat4 b hb with h1 | h1; exact HO3.out b h1; (have := HB3.out.size; simp at h1; omega)); clear hr4 hg4 hat4 hb4))
          | ((refine step_append_srcN (by rfl) _ _ 32 (by rfl) base 9 i0 (.string ⟨#[]⟩) 1 16 Try.underlying32 HI.out HZ0.out HZ1.out HZ2.out (by rfl) (by omega) (.slice _ (k + 1) _) (k + 1) ((T.take k).map Value.string ++ [.string s]) (by rfl) HR4.out (.slice a2 (n - k) (cap - k)) (n - k) ((T.drop k).map Value.string) (by rfl) (HR2.out.later HB4.out) (by unfold maxLen; omega) (by omega) (by exact Nat.le_trans HBASE.out HB4.out.size) ?_; intro a5 c5 w5 hr5 hg5 hat5; have hb5 := HB4.out.grown hg5 HB4.out.size (fun b hb => HO4.out b hb); have HB5 := Lib.hid hb5; have HR5 := Lib.hid hr5; clear hr5 hg5 hat5 hb5)))
      all_goals
        go_wp2_with fail
        go_ret
        have hr := HR5.out
        have e1 : (T.take k).map Value.string ++ [Value.string s] ++ (T.drop k).map Value.string = (T.take k ++ s :: T.drop k).map Value.string := by simp
        have e2 : (T.take k ++ s :: T.drop k).length = k + 1 + (n - k) := by
          rw [List.length_append, List.length_cons, List.length_take, List.length_drop, HT.out]; omega
        refine ⟨_, _, rfl, HP.out, ?_, HB5.out⟩
        rw [e2, ← e1]
        exact hr
end Go.Proofs.Ytobcpafalfdpkaa
