/- A new cache; how many points it has; a range of a column. Conditions: what it holds is in its bounds. -/
import Derived.Test.YtfhdaihladgchaaJ
import Derived.Outline
namespace Go.Proofs.Ytfhdaihladgchaa
open Go.RowKit
section
variable {w w' : World} {S S' : Nat → Prop} {c m : Nat} {L : List Col} {most size : Int}
theorem CacheAt.same2 (h : CacheAt w S c m L most size) (hk : ∀ k, S k → k < w.heap.size → w'.heap[k]? = w.heap[k]?) : CacheAt w' S c m L most size := by
  obtain ⟨es, cl, hm, hrest⟩ := h.map
  refine ⟨(hk c h.here.1 (heap_lt h.blk)).trans h.blk, ⟨es, cl, (hk m h.here.2 (heap_lt hm)).trans hm, hrest⟩, fun x hx => ?_, h.apart, h.here, h.mine⟩
  obtain ⟨h1, h2⟩ := h.col x hx
  exact ⟨ownsRow_same h1 fun g hg => hk g (h.mine x hx g hg) (h1.lt g hg).2, h2⟩
theorem CacheAt.later (h : CacheAt w S c m L most size) (hb : Below w.heap.size w w') : CacheAt w' S c m L most size := h.same2 fun k _ hk => hb.block k hk
theorem CacheAt.beside {T : Nat → Prop} (h : CacheAt w S c m L most size) (ht : Turns T w w') (hd : ∀ k, S k → k < w.heap.size → ¬ T k) : CacheAt w' S c m L most size :=
  h.same2 fun k hk hl => ht.block k hl (hd k hk hl)
theorem CacheAt.more (h : CacheAt w S c m L most size) (hs : ∀ k, S k → S' k) : CacheAt w S' c m L most size :=
  ⟨h.blk, h.map, h.col, h.apart, ⟨hs _ h.here.1, hs _ h.here.2⟩, fun x hx g hg => hs g (h.mine x hx g hg)⟩
end
theorem new (n : Int) (w : World) :
    Calls Try.prog 9 #[.int .i64 n] w fun e w' => e = .returned (.pointer (some ⟨w.heap.size + 1, 0, none⟩)) ∧ CacheAt w' (fun k => k = w.heap.size ∨ k = w.heap.size + 1) (w.heap.size + 1) w.heap.size [] (max n 0) 0 ∧ Below w.heap.size w w' ∧ w'.heap.size = w.heap.size + 2 := by
  have hmm := @run_makeMap Try.prog
  go_enter Try.func9, Try.ntmps9
  have key : ∀ r : Int, r = max n 0 → CacheAt ((w.alloc (.map #[] 0)).alloc (.cells #[.int .i64 r, .int .i64 0, .map (some w.heap.size)] 60)) (fun k => k = w.heap.size ∨ k = w.heap.size + 1) (w.heap.size + 1) w.heap.size [] (max n 0) 0 := by
    rintro r rfl
    refine ⟨?_, ?_, (fun e he => nomatch he), List.Pairwise.nil, ⟨.inr rfl, .inl rfl⟩, (fun e he => nomatch he)⟩
    · have h1 := heap_alloc_new (w.alloc (.map #[] 0)) (.cells #[.int .i64 (max n 0), .int .i64 0, .map (some w.heap.size)] 60)
      rw [World.size_alloc] at h1
      exact h1
    · exact (World.ownsMap_made w Try.prog 63 rowE).alloc _
  by_cases h0 : 0 ≤ n
  · go_wp2_with fail
    go_ret
    exact ⟨rfl, key _ (by omega), ((Below.refl _ _).alloc (Nat.le_refl _) _).alloc (by simp) _, by simp⟩
  · go_wp2_with fail
    go_ret
    exact ⟨rfl, key _ (by omega), ((Below.refl _ _).alloc (Nat.le_refl _) _).alloc (by simp) _, by simp⟩
theorem sizeC (w : World) (S : Nat → Prop) (c m : Nat) (L : List Col) (most size : Int) (h : CacheAt w S c m L most size) :
    Calls Try.prog 13 #[.pointer (some ⟨c, 0, none⟩)] w fun e w' => e = .returned (.int .i64 size) ∧ w = w' := by
  have hb := h.blk
  have c1 : w.cell? ⟨c, 1, none⟩ = some (.int .i64 size) := by simp [World.cell?, hb]
  clear hb h
  go_enter Try.func13, Try.ntmps13
  go_wp2_with fail
  go_ret
  exact ⟨rfl, rfl⟩
def ptsOf : Option Col → List Pt
  | some e => e.l
  | none => []
/-- A range of points. -/
def rng (l : List Pt) (a b : Int) : List Pt := (l.drop (loI l a)).take (endI l a b - loI l a)
theorem valOf_row {w : World} {S : Nat → Prop} {c m : Nat} {L : List Col} {most size : Int} (h : CacheAt w S c m L most size) (s f : ByteArray) : w.ownsRow 0 33 4 (valOf (look L s f)) (ptsOf (look L s f)).length (ptC (ptsOf (look L s f))) ∧ Rises (ptsOf (look L s f)) := by
  cases hl : look L s f with
  | none => exact ⟨World.ownsRow_nil _ _ _ _, List.Pairwise.nil⟩
  | some e => exact ⟨(h.col e (look_mem hl).1).1, (h.col e (look_mem hl).1).2.1⟩
theorem slice_both (a : Option Addr) (n c i j : Nat) (hi : i ≤ j) (hj : j ≤ c) (w' : World) : (Instr.slice 23 (.slice a n c) (some (.int .i64 (i : Int))) (some (.int .i64 (j : Int))) none).run Try.prog w' = .ok (.slice (if c = i then a else a.map (·.add (i * 4))) (j - i) (c - i)) w' := by
  have hso : (Try.prog.info? 33).map (·.size) = some 4 := by kernel_rfl
  simp [Instr.slice, Instr.sliceBounds, Instr.sliceBound, asIntOf, go_sem, hi, hj]
theorem cut_src {w : World} {va : Option Addr} {n vc i j : Nat} {l : List Pt} (h : w.ownsRow 0 33 4 (.slice va n vc) n (ptC l)) (hl : l.length = n) (hi : i ≤ j) (hj : j ≤ n) :
    j ≤ vc ∧ SrcN w 4 (.slice (if vc = i then va else va.map (·.add (i * 4))) (j - i) (vc - i)) ((l.drop i).take (j - i)).length (ptC ((l.drop i).take (j - i))) := by
  have hlen : ((l.drop i).take (j - i)).length = j - i := by rw [List.length_take, List.length_drop]; omega
  rw [hlen]
  rcases h.2 with ⟨h1, h2⟩ | ⟨g, c, cur, h1, _, h2, h3, h4, h5, h6⟩
  · cases h1
    refine ⟨by omega, by rw [ptC_len, hlen], .inl ⟨?_, by omega⟩⟩
    have : j - i = 0 := by omega
    rw [this]
    simp
  · cases h1
    refine ⟨by omega, by rw [ptC_len, hlen], .inr ⟨if vc = i then ⟨g, 0, none⟩ else ⟨g, i * 4, none⟩, vc - i, ?_, fun k u hk => ?_, fun u hu => ptC_one _ u hu⟩⟩
    · by_cases he : vc = i
      · simp [he]
      · simp [he, addr_lit]
    · by_cases he : vc = i
      · have h0 : j - i = 0 := by omega
        rw [h0] at hk
        simp [ptC] at hk
      · rw [if_neg he, addr_lit]
        have hkl : k < (j - i) * 4 := by
          have := (List.getElem?_eq_some_iff.1 hk).1
          rw [ptC_len, hlen] at this
          exact this
        rw [← ptC_take, ← ptC_drop, List.getElem?_take_of_lt hkl, List.getElem?_drop, ← h6, List.getElem?_take_of_lt (by omega)] at hk
        simp [World.cell?, h2]
        simpa using hk
set_option maxRecDepth 100000 in
theorem getC (w : World) (S : Nat → Prop) (c m : Nat) (L : List Col) (most size : Int) (s f : ByteArray) (a b : Int) (h : CacheAt w S c m L most size) (hs : s.size ≤ maxLen) (hf : f.size ≤ maxLen) (hn : (ptsOf (look L s f)).length ≤ 1000000000000) :
    Calls Try.prog 11 #[.pointer (some ⟨c, 0, none⟩), .string s, .string f, .int .i64 a, .int .i64 b] w fun e w' => ∃ v base, e = .returned v ∧ w.heap.size ≤ base ∧ w'.ownsRow base 33 4 v (rng (ptsOf (look L s f)) a b).length (ptC (rng (ptsOf (look L s f)) a b)) ∧ Below w.heap.size w w' := by
  have hb := h.blk
  have c2 : w.cell? ⟨c, 2, none⟩ = some (.map (some m)) := by simp [World.cell?, hb]
  have hlk := h.lookup s f hs hf
  obtain ⟨hrow, hris⟩ := valOf_row h s f
  obtain ⟨v, hv⟩ : ∃ v, valOf (look L s f) = v := ⟨_, rfl⟩
  obtain ⟨l, hl⟩ : ∃ l, ptsOf (look L s f) = l := ⟨_, rfl⟩
  rw [hv] at hlk hrow
  rw [hl] at hrow hris hn ⊢
  obtain ⟨va, vc, rfl⟩ : ∃ a c, v = .slice a l.length c := by
    rcases hrow.2 with ⟨h1, h2⟩ | ⟨g, c, cur, h1, _⟩
    · exact ⟨none, 0, by rw [h1, h2]⟩
    · exact ⟨_, c, h1⟩
  have hle : loI l a ≤ endI l a b := Nat.le_max_left _ _
  have hle2 : endI l a b ≤ l.length := Nat.max_le.2 ⟨loI_le l a, hiI_le l b⟩
  obtain ⟨hjc, hsrc⟩ := cut_src (i := loI l a) (j := endI l a b) hrow rfl hle hle2
  have hcut := slice_both va l.length vc (loI l a) (endI l a b) hle hjc
  obtain ⟨va', hva⟩ : ∃ va', (if vc = loI l a then va else va.map (·.add (loI l a * 4))) = va' := ⟨_, rfl⟩
  rw [hva] at hsrc hcut
  have hlr : (rng l a b).length ≤ 1000000000000 := by unfold rng; rw [List.length_take, List.length_drop]; omega
  have HROW := Lib.hid hrow
  have HRIS := Lib.hid hris
  have HSRC := Lib.hid hsrc
  have HLR := Lib.hid hlr
  unfold kV at hlk
  clear hb h hv hl hrow hris hle hle2 hjc hva hsrc hlr
  go_enter Try.func11, Try.ntmps11
  go_wp2_with fail
  refine (between w 0 (.slice va l.length vc) l a b HROW.out HRIS.out hn).mono ?_
  rintro e w1 ⟨rfl, hb1⟩
  have HB1 := Lib.hid hb1
  clear hb1 c2 hlk
  go_wp2_with fail
  refine (clone w1 _ (rng l a b) (HSRC.out.later HB1.out) HLR.out).mono ?_
  rintro e w2 ⟨v', rfl, hr2, hb2⟩
  have HR2 := Lib.hid hr2
  have HB2 := Lib.hid hb2
  clear hr2 hb2
  go_wp2_with fail
  go_ret
  exact ⟨v', w1.heap.size, rfl, HB1.out.size, HR2.out, HB1.out.trans (HB2.out.mono HB1.out.size)⟩
end Go.Proofs.Ytfhdaihladgchaa
