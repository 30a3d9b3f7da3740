/- All tokens, by the program: the walk. Condition: none. -/
import Derived.Test.YtcmdcdjclmpncaaL
namespace Go.Proofs.Ytcmdcdjclmpncaa
open Go.RowKit
theorem own_later {w w' : World} {base e size n g : Nat} {v : Value} {xs : List Value} (h : w.ownsRow base e size v n xs) (hg : w.grownBy w' (some g)) (hlt : g < base) : w'.ownsRow base e size v n xs :=
  h.kept hg (by
    cases hv : v.ownBlock with
    | none => exact .inl rfl
    | some j =>
      refine .inr fun e => ?_
      cases e
      have := (h.lt _ hv).1
      omega)
theorem below_grown {w wr w' : World} {g : Nat} (h : Below w.heap.size w wr) (hg : wr.grownBy w' (some g)) (hge : w.heap.size ≤ g) : Below w.heap.size w w' :=
  ⟨hg.os.trans h.os, hg.tape.trans h.tape, hg.output.trans h.output, Nat.le_trans h.size hg.size, fun i hi => (hg.block i (Nat.lt_of_lt_of_le hi h.size) (by simp; omega)).trans (h.block i hi)⟩
theorem below_drewN {B : Nat} {a w : World} (h : Below B a w) (n : Nat) : Below B a (w.drewN n) := ⟨h.os, h.tape, h.output, h.size, h.block⟩
theorem MemT.append {s txt : ByteArray} {k : Nat} {acc : List Tok} {v v1 : Value} {w w1 w7 : World} {o1 o2 : Obj} {kd at_ : Int} {n : Nat} {xs : List Value} (hX : w1.heap[w.heap.size]? = some (.cells #[.string s, .int .i64 (k : Int)] 46 (0, 0))) (ho : w1.ownsRow (w.heap.size + 1) 34 3 v acc.length (tokCells acc)) (hb : Below w.heap.size w w1)
    (hg : ((w1.alloc o1).alloc o2).grownBy w7 v.ownBlock) (hown : w7.ownsRow (w.heap.size + 1) 34 3 v1 n xs) (hn : n = acc.length + 1) (hx : xs = tokCells acc ++ [.int .i64 kd, .string txt, .int .i64 at_]) : MemT s k (acc ++ [(kd, txt, at_)]) v1 w w7 := by
  subst hn hx
  have hlt : w.heap.size < w1.heap.size := lt_of_block hX
  have hb2 : Below w.heap.size w ((w1.alloc o1).alloc o2) := (hb.alloc (by omega) o1).alloc (by simp; omega) o2
  refine ⟨?_, ?_, hb2.grown hg (by simp; omega) (fun j hj => by have := (ho.lt j hj).1; omega)⟩
  · refine (hg.block _ (by simp; omega) (fun e => by have := (ho.lt _ e.symm).1; omega)).trans ?_
    exact (Below.heap_alloc _ o2 _ (by simp; omega)).trans ((Below.heap_alloc w1 o1 _ hlt).trans hX)
  · rw [tokCells_snoc, List.length_append]
    exact hown
set_option maxHeartbeats 1000000 in
theorem tokens9 (s : ByteArray) (w : World) (hs0 : s.size ≤ 9223372036854775807) : Calls Try.prog 9 #[.string s] w (TokPost s.data.toList w) := by
  obtain ⟨i0, hi, hz0, hz1, hz2⟩ := info_parts info34
  have HI := Lib.hid hi
  have HZ0 := Lib.hid hz0
  have HZ1 := Lib.hid hz1
  have HZ2 := Lib.hid hz2
  clear hi hz0 hz1 hz2
  have hln : s.data.toList.length = s.size := by simp
  have HLN := Lib.hid hln
  clear hln
  by_cases hbig : 65536 < s.size
  · have hbig' : (65536 : Int) < (s.size : Int) := by omega
    have HT : Hid (tokens s.data.toList = (.error 0, 4)) := Lib.hid (by rw [tokens, if_pos (by rw [HLN.out]; exact hbig)])
    clear hbig
    go_enter Try.func9, Try.ntmps9
    go_wp2_with fail
    go_ret3
    refine ⟨Below.refl _ _, ?_⟩
    rw [HT.out]
    rfl
  · have hbig' : ¬ (65536 : Int) < (s.size : Int) := by omega
    have hs : s.size ≤ 65536 := by omega
    have HT : Hid (tokens s.data.toList = finT (lexL s.size [] s.data.toList)) := Lib.hid (by rw [tokens, if_neg (by rw [HLN.out]; exact hbig), HLN.out])
    clear hbig
    go_enter Try.func9, Try.ntmps9
    go_wp2_with fail
    go_loopw [5] (fun v wr => InTok s w v wr) (fun _ wr => s.size - kOfW w.heap.size wr)
    case atStart =>
      refine ⟨0, [], Nat.zero_le _, Nat.zero_le _, rfl, heap_alloc_new w _, World.ownsRow_nil _ _ _ _, (Below.refl _ _).alloc (Nat.le_refl _) _⟩
    case round =>
      obtain ⟨k, acc, hk, hacc, hlex, hX, hown, hb⟩ := hrel
      obtain ⟨a, cap, rfl⟩ := own_slice hown
      have HLX := Lib.hid hlex
      have HX := Lib.hid hX
      have HO := Lib.hid hown
      have HB := Lib.hid hb
      have HKW : Hid (kOfW w.heap.size wr = k) := Lib.hid (by unfold kOfW; simp [World.cell?, hX])
      have hsz := hb.size
      have hltX : w.heap.size < wr.heap.size := lt_of_block hX
      clear hlex hX hown hb
      go_wp2_with fail
      refine (next s w.heap.size k _ (by omega) hk HX.out).mono ?_
      rintro e w1 ⟨kind, text, at_, ok, k', rfl, hX1, hg1, hk', hv⟩
      have hb1 := below_grown HB.out hg1 (Nat.le_refl _)
      have ho1 := own_later HO.out hg1 (by omega)
      have HB1 := Lib.hid hb1
      have HO1 := Lib.hid ho1
      have HX1 := Lib.hid hX1
      have hltX1 : w.heap.size < w1.heap.size := lt_of_block hX1
      clear hX1 hg1 hb1 ho1
      rcases nextV_cases hv with ⟨hl, rfl, rfl⟩ | ⟨c, r, hl, rfl, hcase⟩
      · have HFIN := Lib.hid (HLX.out.trans (lex_end hl))
        clear hv hl
        go_wp2_with fail
        go_ret3
        refine ⟨HB1.out.alloc (by omega) _, ?_⟩
        rw [HT.out, HFIN.out]
        exact ⟨_, _, rfl, own_toks (HO1.out.alloc _)⟩
      · rcases hcase with ⟨hone, rfl⟩ | ⟨tx, q, hone, rfl, rfl, rfl⟩
        · have HFIN := Lib.hid (HLX.out.trans (lex_bad hl hone))
          clear hv hl hone
          go_wp2_with fail
          go_quiet (fail)
          go_wp2_with fail
          go_ret3
          refine ⟨below_drewN (HB1.out.alloc (by omega) _) _, ?_⟩
          rw [HT.out, HFIN.out]
          rfl
        · have HFIN := Lib.hid (HLX.out.trans (lex_step hl hone))
          have hri := rest_is hl hone
          have hkq := hri.2
          have HRI := Lib.hid hri.1
          have hkd := one_kind hone
          have hkd' : (kind == 0) = false := by simp; omega
          obtain ⟨k1, hk1⟩ : ∃ k1, s.size - q.length = k1 := ⟨_, rfl⟩
          obtain ⟨txt, htx⟩ : ∃ txt, ofL tx = txt := ⟨_, rfl⟩
          obtain ⟨pl, hpl⟩ : ∃ pl : Nat, s.size - (c :: r).length = pl := ⟨_, rfl⟩
          rw [hk1] at hkq HRI hk' HX1
          rw [htx, hpl] at HFIN
          rw [htx, hpl]
          have HK1 := Lib.hid hk1
          clear hv hl hone hri hk1 htx hpl hkd
          go_wp2_with ((at_builtin; go_must (refine wpList_append_own _ rfl (.tmp 30) (.tmp 32) 27 rfl (w.heap.size + 1) 34 i0 _ 3 32 Try.underlying27 HI.out HZ0.out HZ1.out HZ2.out rfl (by omega) _ acc.length _ rfl ((HO1.out.alloc _).alloc _) ⟨w1.heap.size + 1, 0, none⟩ 1 1 [.int .i64 kind, .string txt, .int .i64 (pl : Nat)] rfl rfl (World.news_of_block (cs := #[.int .i64 kind, .string txt, .int .i64 (pl : Nat)]) (t := 34) (fr := (0, 0)) (by rw [show w1.heap.size + 1 = (w1.alloc (.cells #[.int .i64 kind, .string txt, .int .i64 (pl : Nat)] 34)).heap.size by simp]; exact heap_alloc_new _ _)) (by simp [Value.oneCell']) (by unfold maxLen; omega) (by omega) (by simp; omega) ?_); intro v1 w7 hown1 hgrow1 hnn; clear hnn; have HOW := Lib.hid hown1; have HGR := Lib.hid hgrow1; clear hown1 hgrow1))
          have HMT := MemT.append HX1.out HO1.out HB1.out HGR.out HOW.out rfl rfl
          refine ⟨⟨k1, _, hk', by simp; omega, ?_, HMT⟩, ?_⟩
          · rw [HFIN.out, HRI.out]
          · have hkw : kOfW w.heap.size w7 = k1 := by unfold kOfW; simp [World.cell?, HMT.1]
            rw [HKW.out, hkw]
            omega
end Go.Proofs.Ytcmdcdjclmpncaa
