/- A text between quotes, by the program and by the reference. Condition: the text's length. -/
import Derived.Test.YtcmdcdjclmpncaaR
import Derived.Test.YtcmdcdjclmpncaaBld
namespace Go.Proofs.Ytcmdcdjclmpncaa
open Go.RowKit
def qe (q c : UInt8) : List UInt8 := if c = q ∨ c.toNat = 92 then [92, c] else [c]
def qbody (q : UInt8) (l : List UInt8) : List UInt8 := l.flatMap (qe q)
def qtext (q : UInt8) (l : List UInt8) : List UInt8 := q :: (qbody q l ++ [q])
theorem qbody_snoc (q : UInt8) (l : List UInt8) (c : UInt8) : qbody q (l ++ [c]) = qbody q l ++ qe q c := by simp [qbody]
theorem qe_le (q c : UInt8) : (qe q c).length ≤ 2 := by unfold qe; split <;> simp
theorem qbody_le (q : UInt8) : ∀ l : List UInt8, (qbody q l).length ≤ 2 * l.length
  | [] => by simp [qbody]
  | c :: l => by
    have h1 := qe_le q c
    have h2 := qbody_le q l
    simp only [qbody, List.flatMap_cons, List.length_append, List.length_cons] at *
    omega
theorem take_snoc (s : ByteArray) (k : Nat) (h : k < s.size) : s.data.toList.take (k + 1) = s.data.toList.take k ++ [s[k]] := by
  rw [List.take_succ_eq_append_getElem (by simpa using h)]; rfl
theorem qbody_take_le (q : UInt8) (s : ByteArray) (k : Nat) : (qbody q (s.data.toList.take k)).length ≤ 2 * k := by
  have h1 := qbody_le q (s.data.toList.take k)
  have h2 : (s.data.toList.take k).length ≤ k := List.length_take_le _ _
  omega
theorem byteCells_len (l : List UInt8) : (Lib.byteCells l).length = l.length := by simp [Lib.byteCells]
theorem builder_later {B b : Nat} {p : Value} {bs : List Value} {w w' : World} (h : Lib.BuilderAt 51 5 B b p bs w) (hb : Below w.heap.size w w') : Lib.BuilderAt 51 5 B b p bs w' := by
  obtain ⟨hB, v, hbk, hown, hne⟩ := h
  exact ⟨hB, v, (hb.block b (lt_of_block hbk)).trans hbk, hown.kept (row := none) ⟨hb.os, hb.tape, hb.output, hb.size, fun i hi _ => hb.block i hi⟩ (by cases v.ownBlock <;> simp), hne⟩
def Quoted (q : UInt8) (s : ByteArray) (w : World) (e : Ending) (w' : World) : Prop := e = .returned (.string (ofL (qtext q s.data.toList))) ∧ Below w.heap.size w w'
def InQ (q : UInt8) (s : ByteArray) (A : Nat) (o : Obj) (w : World) (i : Value) (wr : World) : Prop := ∃ k : Nat, k ≤ s.size ∧ i = .int .i64 k ∧ wr.heap[A]? = some o ∧ Lib.BuilderAt 51 5 w.heap.size w.heap.size (.pointer (some ⟨w.heap.size, 0, none⟩)) (Lib.byteCells (q :: qbody q (s.data.toList.take k))) wr ∧ Below w.heap.size w wr
set_option maxHeartbeats 1000000 in
theorem quote12 (q : UInt8) (s : ByteArray) (w : World) (hs : s.size ≤ 1048576) : Calls Try.prog 12 #[.string s, .int .u8 q.toNat] w (Quoted q s w) := by
  go_enter Try.func12, Try.ntmps12
  go_wp2_with fail
  refine (writeByte w.heap.size w.heap.size [] (q.toNat : Int) _ (Lib.fresh_isBuilder 51 5 w) (by simp) (by simp)).mono ?_
  rintro e w1 ⟨rfl, hd1, hb1, _⟩
  have hcv := run_bytes_of_string w1 9 37 5 s Try.underlying9 Try.underlying37 Try.underlying5
  have hcells : ∀ j (hj : j < s.size), (bytesRow s (grownCap w1 s.size 0 5))[j]? = some (.int .u8 (s[j].toNat : Int)) := fun j hj => bytesRow_at s (grownCap w1 s.size 0 5) j hj
  have hblk : (w1.drew.alloc (.cells (bytesRow s (grownCap w1 s.size 0 5)) 5 ((bytesRow s (grownCap w1 s.size 0 5)).size, (bytesRow s (grownCap w1 s.size 0 5)).size + 1))).heap[w1.heap.size]? = some (.cells (bytesRow s (grownCap w1 s.size 0 5)) 5 ((bytesRow s (grownCap w1 s.size 0 5)).size, (bytesRow s (grownCap w1 s.size 0 5)).size + 1)) := heap_alloc_new w1.drew _
  have hbel : Below w1.heap.size w1 (w1.drew.alloc (.cells (bytesRow s (grownCap w1 s.size 0 5)) 5 ((bytesRow s (grownCap w1 s.size 0 5)).size, (bytesRow s (grownCap w1 s.size 0 5)).size + 1))) := (Below.refl _ _).drew.alloc (Nat.le_refl _) _
  have hsz1 : w.heap.size < w1.heap.size := by have := hb1.size; simp at this; omega
  generalize w1.drew.alloc (.cells (bytesRow s (grownCap w1 s.size 0 5)) 5 ((bytesRow s (grownCap w1 s.size 0 5)).size, (bytesRow s (grownCap w1 s.size 0 5)).size + 1)) = w2 at *
  generalize bytesRow s (grownCap w1 s.size 0 5) = arr at *
  generalize grownCap w1 s.size 0 5 = cp at *
  have hb2 : Below w.heap.size w w2 := (((Below.refl _ _).alloc (Nat.le_refl w.heap.size) _).trans hb1).trans (hbel.mono (by omega))
  have HC := Lib.hid hcells
  have HBB := Lib.hid hb2
  have HD := Lib.hid (builder_later hd1 hbel)
  have HBK := Lib.hid hblk
  have hob : ∀ cs, Obj.cells arr 5 (arr.size, arr.size + 1) ≠ .cells cs 5 (0, 0) := by
    intro cs h
    simp at h
  have HOB := Lib.hid hob
  clear hcells hbel hd1 hb1 hb2 hblk hob
  go_wp2_with fail
  go_loopw [13] (fun i wr => InQ q s w1.heap.size (.cells arr 5 (arr.size, arr.size + 1)) w i wr) (fun i _ => s.size - (intOf i).toNat)
  case atStart => exact ⟨0, Nat.zero_le _, rfl, HBK.out, by simpa [qbody, Lib.byteCells] using HD.out, HBB.out⟩
  case round =>
    obtain ⟨k, hk, rfl, hblk, hbd, hb⟩ := hrel
    have HD0 := Lib.hid hbd
    have HB := Lib.hid hb
    have HBLK := Lib.hid hblk
    have hsz := hb.size
    have hle := qbody_take_le q s k
    by_cases hlt : k < s.size
    · obtain ⟨c, hcc⟩ : ∃ c, s[k] = c := ⟨_, rfl⟩
      have HT := Lib.hid (take_snoc s k hlt)
      have hcell : wr.cell? ⟨w1.heap.size, k, none⟩ = some (.int .u8 (c.toNat : Int)) := by
        have h1 := HC.out k hlt
        rw [hcc] at h1
        simp [World.cell?, hblk, h1]
      rw [hcc] at HT
      clear hcc hblk hbd hb
      have hi0 : (0 : Int) ≤ (k : Int) := by omega
      have hi1 : (k : Int) < (s.size : Int) := by omega
      by_cases hcq : c = q
      · subst hcq
        have HE := Lib.hid (show qe c c = [92, c] by unfold qe; rw [if_pos (.inl rfl)])
        go_wp2_with fail
        refine (writeByte w.heap.size w.heap.size _ (92) wr (.inr HD0.out) (by rw [byteCells_len]; simp; omega) hsz).mono ?_
        rintro e w3 ⟨rfl, hd3, hb3, hk3⟩
        have HD3 := Lib.hid hd3
        have HB3 := Lib.hid hb3
        have HK3 := Lib.hid hk3
        clear hd3 hb3 hk3
        go_wp2_with fail
        refine (writeByte w.heap.size w.heap.size _ ((c.toNat : Int)) w3 (.inr HD3.out) (by rw [List.length_append, byteCells_len]; simp; omega) (Nat.le_trans hsz HB3.out.size)).mono ?_
        rintro e w4 ⟨rfl, hd4, hb4, hk4⟩
        have HD4 := Lib.hid hd4
        have HB4 := Lib.hid hb4
        have HK4 := Lib.hid hk4
        clear hd4 hb4 hk4
        go_wp2_with fail
        go_roundw
        case rel =>
          refine ⟨k + 1, by omega, by go_num, HK4.out _ _ (HK3.out _ _ HBLK.out (by omega) HOB.out) (by omega) HOB.out, ?_, (HB.out.trans HB3.out).trans HB4.out⟩
          rw [HT.out, qbody_snoc, HE.out, ← List.cons_append, byteCells_app]
          simpa [Lib.byteCells] using HD4.out
        case measure => simp [intOf]; omega
      · have hb0 : ((c.toNat : Int) == (q.toNat : Int)) = false := by
          rw [beq_eq_false_iff_ne]
          intro h
          exact hcq (UInt8.toNat_inj.1 (by omega))
        by_cases h92 : c.toNat = 92
        · have hb1 : ((c.toNat : Int) == 92) = true := by simp; omega
          have HE := Lib.hid (show qe q c = [92, c] by unfold qe; rw [if_pos (.inr h92)])
          clear h92
          go_wp2_with fail
          refine (writeByte w.heap.size w.heap.size _ (92) wr (.inr HD0.out) (by rw [byteCells_len]; simp; omega) hsz).mono ?_
          rintro e w3 ⟨rfl, hd3, hb3, hk3⟩
          have HD3 := Lib.hid hd3
          have HB3 := Lib.hid hb3
          have HK3 := Lib.hid hk3
          clear hd3 hb3 hk3
          go_wp2_with fail
          refine (writeByte w.heap.size w.heap.size _ ((c.toNat : Int)) w3 (.inr HD3.out) (by rw [List.length_append, byteCells_len]; simp; omega) (Nat.le_trans hsz HB3.out.size)).mono ?_
          rintro e w4 ⟨rfl, hd4, hb4, hk4⟩
          have HD4 := Lib.hid hd4
          have HB4 := Lib.hid hb4
          have HK4 := Lib.hid hk4
          clear hd4 hb4 hk4
          go_wp2_with fail
          go_roundw
          case rel =>
            refine ⟨k + 1, by omega, by go_num, HK4.out _ _ (HK3.out _ _ HBLK.out (by omega) HOB.out) (by omega) HOB.out, ?_, (HB.out.trans HB3.out).trans HB4.out⟩
            rw [HT.out, qbody_snoc, HE.out, ← List.cons_append, byteCells_app]
            simpa [Lib.byteCells] using HD4.out
          case measure => simp [intOf]; omega
        · have hb1 : ((c.toNat : Int) == 92) = false := by simp; omega
          have HE := Lib.hid (show qe q c = [c] by unfold qe; rw [if_neg (fun h => h.elim hcq h92)])
          clear h92
          go_wp2_with fail
          refine (writeByte w.heap.size w.heap.size _ ((c.toNat : Int)) wr (.inr HD0.out) (by rw [byteCells_len]; simp; omega) hsz).mono ?_
          rintro e w3 ⟨rfl, hd3, hb3, hk3⟩
          have HD3 := Lib.hid hd3
          have HB3 := Lib.hid hb3
          have HK3 := Lib.hid hk3
          clear hd3 hb3 hk3
          go_wp2_with fail
          go_roundw
          case rel =>
            refine ⟨k + 1, by omega, by go_num, HK3.out _ _ HBLK.out (by omega) HOB.out, ?_, HB.out.trans HB3.out⟩
            rw [HT.out, qbody_snoc, HE.out, ← List.cons_append, byteCells_app]
            simpa [Lib.byteCells] using HD3.out
          case measure => simp [intOf]; omega
    · have hke : k = s.size := by omega
      have HK := Lib.hid (show s.data.toList.take k = s.data.toList by rw [hke, List.take_of_length_le (by simp)])
      clear hke hblk hbd hb
      go_wp2_with fail
      refine (writeByte w.heap.size w.heap.size _ ((q.toNat : Int)) wr (.inr HD0.out) (by rw [byteCells_len]; simp; omega) hsz).mono ?_
      rintro e w3 ⟨rfl, hd3, hb3, hk3⟩
      have HD3 := Lib.hid hd3
      have HB3 := Lib.hid hb3
      have HK3 := Lib.hid hk3
      clear hd3 hb3 hk3
      go_wp2_with fail
      refine (Try.Builder_String_any w.heap.size w.heap.size (q :: (qbody q s.data.toList ++ [q])) w3 (.inr (by rw [← List.cons_append, byteCells_app]; rw [HK.out] at HD3; simpa [Lib.byteCells] using HD3.out)) (Nat.le_trans hsz HB3.out.size)).mono ?_
      rintro e w4 ⟨rfl, hb4⟩
      have HB4 := Lib.hid hb4
      clear hb4
      go_wp2_with fail
      go_ret
      exact ⟨rfl, (HB.out.trans HB3.out).trans HB4.out⟩
def InRQ (q : UInt8) (s : ByteArray) (w : World) (v i : Value) (wr : World) : Prop := ∃ k : Nat, k ≤ s.size ∧ i = .int .i64 k ∧ BOwn wr w.heap.size v (q :: qbody q (s.data.toList.take k)) ∧ Below w.heap.size w wr
set_option maxRecDepth 100000 in
set_option maxHeartbeats 1000000 in
theorem quote13 (q : UInt8) (s : ByteArray) (w : World) (hs : s.size ≤ 1048576) : Calls Try.prog 13 #[.string s, .int .u8 q.toNat] w (Quoted q s w) := by
  obtain ⟨i0, hi, hz0, hz1, hz2⟩ := info_parts info5
  have HI := Lib.hid hi
  have HZ0 := Lib.hid hz0
  have HZ1 := Lib.hid hz1
  have HZ2 := Lib.hid hz2
  clear hi hz0 hz1 hz2
  go_enter Try.func13, Try.ntmps13
  go_wp2_with fail
  go_loopw [5, 6] (fun v i wr => InRQ q s w v i wr) (fun _ i _ => s.size - (intOf i).toNat)
  case atStart =>
    refine ⟨0, Nat.zero_le _, rfl, ?_, (Below.refl _ _).alloc (Nat.le_refl _) _⟩
    exact World.ownsRow_lit w #[.int .u8 q.toNat] 1 (Nat.le_refl _) (by decide) rfl
  case round =>
    obtain ⟨k, hk, rfl, hown, hb⟩ := hrel
    have HO := Lib.hid hown
    have HB := Lib.hid hb
    have hsz := hb.size
    have hle := qbody_take_le q s k
    clear hown hb
    by_cases hlt : k < s.size
    · obtain ⟨c, hcc⟩ : ∃ c, s[k] = c := ⟨_, rfl⟩
      have HT := Lib.hid (take_snoc s k hlt)
      rw [hcc] at HT
      by_cases hcq : c = q
      · subst hcq
        have HE := Lib.hid (show qe c c = [92, c] by unfold qe; rw [if_pos (.inl rfl)])
        go_wp2_with (first | (at_builtin; (refine wpList_append_own _ rfl (.tmp 26) (.tmp 27) 37 rfl w.heap.size 5 i0 _ 1 1 Try.underlying37 HI.out HZ0.out HZ1.out HZ2.out rfl (by omega) _ (c :: qbody c (s.data.toList.take k)).length _ rfl (World.ownsRow.alloc HO.out _) ⟨wr.heap.size, 0, none⟩ 1 1 [.int .u8 92] rfl rfl (World.news_of_block (cs := #[.int .u8 92]) (t := 5) (fr := (0, 0)) (heap_alloc_new wr _)) (by simp [Value.oneCell']) (by unfold maxLen; simp; omega) (by simp; omega) (by simp; omega) ?_); intro v5 w5 hown5 hgrow5 hnn; clear hnn; have HO5 := Lib.hid hown5; have HB5 := Lib.hid ((HB.out.alloc (by omega) _).grown hgrow5 (by simp; omega) (fun j hj => own_ge HO.out hj)); have hsz5 := HB5.out.size; clear hown5 hgrow5) | (at_builtin; go_must (refine wpList_append_own _ rfl (.tmp 29) (.tmp 33) 37 rfl w.heap.size 5 i0 _ 1 1 Try.underlying37 HI.out HZ0.out HZ1.out HZ2.out rfl (by omega) _ ((c :: qbody c (s.data.toList.take k)).length + 1) _ rfl (World.ownsRow.alloc HO5.out _) ⟨w5.heap.size, 0, none⟩ 1 1 [.int .u8 (c.toNat : Int)] rfl rfl (World.news_of_block (cs := #[.int .u8 (c.toNat : Int)]) (t := 5) (fr := (0, 0)) (heap_alloc_new w5 _)) (by simp [Value.oneCell']) (by unfold maxLen; simp; omega) (by simp; omega) (by simp; omega) ?_); intro v6 w6 hown6 hgrow6 hnn; clear hnn; have HO6 := Lib.hid hown6; have HB6 := Lib.hid ((HB5.out.alloc (by omega) _).grown hgrow6 (by simp; omega) (fun j hj => own_ge HO5.out hj)); have hsz6 := HB6.out.size; clear hown6 hgrow6))
        go_roundw
        case rel =>
          refine ⟨k + 1, by omega, by go_num, ?_, HB6.out⟩
          rw [HT.out, qbody_snoc, HE.out, ← List.cons_append]
          unfold BOwn
          rw [byteCells_app]
          have := HO6.out
          simpa [Lib.byteCells] using this
        case measure => simp [intOf]; omega
      · have hb0 : ((c.toNat : Int) == (q.toNat : Int)) = false := by
          rw [beq_eq_false_iff_ne]
          intro h
          exact hcq (UInt8.toNat_inj.1 (by omega))
        by_cases h92 : c.toNat = 92
        · have hb1 : ((c.toNat : Int) == 92) = true := by simp; omega
          have HE := Lib.hid (show qe q c = [92, c] by unfold qe; rw [if_pos (.inr h92)])
          clear h92
          go_wp2_with (first | (at_builtin; (refine wpList_append_own _ rfl (.tmp 26) (.tmp 27) 37 rfl w.heap.size 5 i0 _ 1 1 Try.underlying37 HI.out HZ0.out HZ1.out HZ2.out rfl (by omega) _ (q :: qbody q (s.data.toList.take k)).length _ rfl (World.ownsRow.alloc HO.out _) ⟨wr.heap.size, 0, none⟩ 1 1 [.int .u8 92] rfl rfl (World.news_of_block (cs := #[.int .u8 92]) (t := 5) (fr := (0, 0)) (heap_alloc_new wr _)) (by simp [Value.oneCell']) (by unfold maxLen; simp; omega) (by simp; omega) (by simp; omega) ?_); intro v5 w5 hown5 hgrow5 hnn; clear hnn; have HO5 := Lib.hid hown5; have HB5 := Lib.hid ((HB.out.alloc (by omega) _).grown hgrow5 (by simp; omega) (fun j hj => own_ge HO.out hj)); have hsz5 := HB5.out.size; clear hown5 hgrow5) | (at_builtin; go_must (refine wpList_append_own _ rfl (.tmp 29) (.tmp 33) 37 rfl w.heap.size 5 i0 _ 1 1 Try.underlying37 HI.out HZ0.out HZ1.out HZ2.out rfl (by omega) _ ((q :: qbody q (s.data.toList.take k)).length + 1) _ rfl (World.ownsRow.alloc HO5.out _) ⟨w5.heap.size, 0, none⟩ 1 1 [.int .u8 (c.toNat : Int)] rfl rfl (World.news_of_block (cs := #[.int .u8 (c.toNat : Int)]) (t := 5) (fr := (0, 0)) (heap_alloc_new w5 _)) (by simp [Value.oneCell']) (by unfold maxLen; simp; omega) (by simp; omega) (by simp; omega) ?_); intro v6 w6 hown6 hgrow6 hnn; clear hnn; have HO6 := Lib.hid hown6; have HB6 := Lib.hid ((HB5.out.alloc (by omega) _).grown hgrow6 (by simp; omega) (fun j hj => own_ge HO5.out hj)); have hsz6 := HB6.out.size; clear hown6 hgrow6))
          go_roundw
          case rel =>
            refine ⟨k + 1, by omega, by go_num, ?_, HB6.out⟩
            rw [HT.out, qbody_snoc, HE.out, ← List.cons_append]
            unfold BOwn
            rw [byteCells_app]
            have := HO6.out
            simpa [Lib.byteCells] using this
          case measure => simp [intOf]; omega
        · have hb1 : ((c.toNat : Int) == 92) = false := by simp; omega
          have HE := Lib.hid (show qe q c = [c] by unfold qe; rw [if_neg (fun h => h.elim hcq h92)])
          clear h92
          go_wp2_with (at_builtin; go_must (refine wpList_append_own _ rfl (.tmp 29) (.tmp 33) 37 rfl w.heap.size 5 i0 _ 1 1 Try.underlying37 HI.out HZ0.out HZ1.out HZ2.out rfl (by omega) _ (q :: qbody q (s.data.toList.take k)).length _ rfl (World.ownsRow.alloc HO.out _) ⟨wr.heap.size, 0, none⟩ 1 1 [.int .u8 (c.toNat : Int)] rfl rfl (World.news_of_block (cs := #[.int .u8 (c.toNat : Int)]) (t := 5) (fr := (0, 0)) (heap_alloc_new wr _)) (by simp [Value.oneCell']) (by unfold maxLen; simp; omega) (by simp; omega) (by simp; omega) ?_); intro v6 w6 hown6 hgrow6 hnn; clear hnn; have HO6 := Lib.hid hown6; have HB6 := Lib.hid ((HB.out.alloc (by omega) _).grown hgrow6 (by simp; omega) (fun j hj => own_ge HO.out hj)); have hsz6 := HB6.out.size; clear hown6 hgrow6)
          go_roundw
          case rel =>
            refine ⟨k + 1, by omega, by go_num, ?_, HB6.out⟩
            rw [HT.out, qbody_snoc, HE.out, ← List.cons_append]
            exact BOwn.snoc HO6.out rfl rfl
          case measure => simp [intOf]; omega
    · have hke : k = s.size := by omega
      have HK := Lib.hid (show s.data.toList.take k = s.data.toList by rw [hke, List.take_of_length_le (by simp)])
      clear hke
      go_wp2_with (at_builtin; go_must (refine wpList_append_own _ rfl (.tmp 35) (.tmp 37) 37 rfl w.heap.size 5 i0 _ 1 1 Try.underlying37 HI.out HZ0.out HZ1.out HZ2.out rfl (by omega) _ (q :: qbody q (s.data.toList.take k)).length _ rfl (World.ownsRow.alloc HO.out _) ⟨wr.heap.size, 0, none⟩ 1 1 [.int .u8 (q.toNat : Int)] rfl rfl (World.news_of_block (cs := #[.int .u8 (q.toNat : Int)]) (t := 5) (fr := (0, 0)) (heap_alloc_new wr _)) (by simp [Value.oneCell']) (by unfold maxLen; simp; omega) (by simp; omega) (by simp; omega) ?_); intro v6 w6 hown6 hgrow6 hnn; clear hnn; have HO6 := Lib.hid hown6; have HB6 := Lib.hid ((HB.out.alloc (by omega) _).grown hgrow6 (by simp; omega) (fun j hj => own_ge HO.out hj)); have hsz6 := HB6.out.size; clear hown6 hgrow6; have hcv := str_of_own (BOwn.snoc (c := q) HO6.out rfl rfl))
      go_ret
      refine ⟨?_, HB6.out⟩
      rw [HK.out]
      rfl
end Go.Proofs.Ytcmdcdjclmpncaa
