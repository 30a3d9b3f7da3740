/- New, make, SetKind, Forget. Condition: the bounds. -/
import Derived.Test.YtobcpafalfdpkaaAA
namespace Go.Proofs.Ytobcpafalfdpkaa
open Go.RowKit Go.WideMaps Go.Sort
def role0 (s : Nat) (k : Nat) : Option Role := if k = s then some .outer else if k = s + 1 then some .idx else none
theorem new8 (w : World) : Calls Try.prog 8 #[] w fun e w' => e = .returned (.pointer (some ⟨w.heap.size + 1, 0, none⟩)) ∧ IdxAt w' (role0 w.heap.size) (w.heap.size + 1) w.heap.size [] (fun _ => me0) ∧ Below w.heap.size w w' ∧ ∀ k, role0 w.heap.size k ≠ none → w.heap.size ≤ k := by
  have hmm := @run_makeMap Try.prog
  go_enter Try.func8, Try.ntmps8
  go_wp2_with fail
  go_ret
  have hs1 : (w.alloc (.map #[] 0)).heap.size = w.heap.size + 1 := by simp
  refine ⟨rfl, ⟨?_, ?_, ?_, (MapS.made w ptrK).same (heap_alloc_old _ _ (by simp)), (fun _ h => nomatch h), fun k hk => ?_⟩, ((Below.refl _ _).alloc (Nat.le_refl _) _).alloc (by simp) _, fun k hk => ?_⟩
  · have := heap_alloc_new (w.alloc (.map #[] 0)) (.cells #[.map (some w.heap.size)] 62)
    rw [hs1] at this
    exact this
  · unfold role0; rw [if_neg (by omega), if_pos rfl]
  · unfold role0; rw [if_pos rfl]
  · unfold role0
    simp at hk
    rw [if_neg (by omega), if_neg (by omega)]
  · unfold role0 at hk
    by_cases h1 : k = w.heap.size
    · omega
    · rw [if_neg h1] at hk
      by_cases h2 : k = w.heap.size + 1
      · omega
      · rw [if_neg h2] at hk
        exact absurd rfl hk
/-- The same data. -/
structure SameMe (μ μ' : Me) : Prop where
  ss : μ'.ss = μ.ss
  A : μ'.A = μ.A
  V : μ'.V = μ.V
  X : μ'.X = μ.X
  kd : μ'.kd = μ.kd
theorem SameMe.refl (μ : Me) : SameMe μ μ := ⟨rfl, rfl, rfl, rfl, rfl⟩
/-- A call has turned one name's. -/
structure Chg (w w' : World) (ρ ρ' : Nat → Option Role) (x m : Nat) (L : List (BA × Nat)) (M : BA → Me) (L' : List (BA × Nat)) (M' : BA → Me) (nm : BA) : Prop where
  idx : IdxAt w' ρ' x m L' M'
  step : Step w w' ρ ρ' fun r => r = .outer ∨ r.of nm
  other : ∀ nm', nm' ≠ nm → meOf L' M' nm' = meOf L M nm'
  len : L'.length ≤ L.length + 1
def roleM (ρ : Nat → Option Role) (s : Nat) (nm : BA) (k : Nat) : Option Role :=
  if k = s then some (.ser nm) else if k = s + 1 then some (.tgs nm) else if k = s + 2 then some (.kin nm) else if k = s + 3 then some (.meas nm) else ρ k
theorem put_len {α : Type} (L : List (BA × α)) (s : BA) (a : α) : (put L s a).length ≤ L.length + 1 := by
  unfold put
  rw [(insS_perm _ _).length_eq, List.length_cons]
  exact Nat.succ_le_succ (List.length_filter_le ..)
def MadePost (w : World) (ρ : Nat → Option Role) (x m : Nat) (L : List (BA × Nat)) (M : BA → Me) (nm : BA) (e : Ending) (w' : World) : Prop :=
  ∃ b ρ' L' M', e = .returned (.pointer (some ⟨b, 0, none⟩)) ∧ Chg w w' ρ ρ' x m L M L' M' nm ∧ get L' nm = some b ∧ SameMe (meOf L M nm) (M' nm) ∧ (get L nm = some b → ρ' = ρ ∧ L' = L ∧ M' = M)
set_option maxRecDepth 100000 in
theorem make29 {w : World} {ρ : Nat → Option Role} {x m : Nat} {L : List (BA × Nat)} {M : BA → Me} (h : IdxAt w ρ x m L M) (nm : BA) (hn : nm.size ≤ maxLen) (hL : L.length < maxLen) : Calls Try.prog 29 #[.pointer (some ⟨x, 0, none⟩), .string nm] w (MadePost w ρ x m L M nm) := by
  have hmm := @run_makeMap Try.prog
  have hb := h.blk
  have c0 : w.cell? ⟨x, 0, none⟩ = some (.map (some m)) := by simp [World.cell?, hb]
  have hl := h.look nm hn
  unfold getV at hl
  have hxl := heap_lt hb
  cases hg : get L nm with
  | some b =>
    rw [hg] at hl
    have hl' : (Instr.lookup 60 (.map (some m)) (.string nm) false).run Try.prog w = .ok (.pointer (some ⟨b, 0, none⟩)) w := hl
    have HH := Lib.hid h
    have HGT := Lib.hid hg
    clear hl hg h hb
    go_enter Try.func29, Try.ntmps29
    go_wp2_with fail
    go_ret
    refine ⟨b, ρ, L, M, rfl, ⟨HH.out, Step.refl HH.out.dom, fun _ _ => rfl, Nat.le_succ _⟩, HGT.out, ?_, fun _ => ⟨rfl, rfl, rfl⟩⟩
    unfold meOf
    rw [HGT.out]
    exact SameMe.refl _
  | none =>
    rw [hg] at hl
    simp only at hl
    have hb1 := (Below.refl w.heap.size w).alloc (Nat.le_refl _) (.map #[] 0)
    have m1 := MapS.made w serK
    obtain ⟨w1, hw1⟩ : ∃ w1, w.alloc (.map #[] 0) = w1 := ⟨_, rfl⟩
    have hs1 : w1.heap.size = w.heap.size + 1 := by rw [← hw1]; simp
    rw [hw1] at hb1 m1
    have hb2 := hb1.alloc hb1.size (.map #[] 0)
    have m1 := m1.same (heap_alloc_old w1 (.map #[] 0) m1.lt)
    have m2 := MapS.made w1 mapK
    obtain ⟨w2, hw2⟩ : ∃ w2, w1.alloc (.map #[] 0) = w2 := ⟨_, rfl⟩
    have hs2 : w2.heap.size = w1.heap.size + 1 := by rw [← hw2]; simp
    rw [hw2] at hb2 m1 m2
    have hb3 := hb2.alloc hb2.size (.map #[] 0)
    have m1 := m1.same (heap_alloc_old w2 (.map #[] 0) m1.lt)
    have m2 := m2.same (heap_alloc_old w2 (.map #[] 0) m2.lt)
    have m3 := MapS.made w2 intK
    obtain ⟨w3, hw3⟩ : ∃ w3, w2.alloc (.map #[] 0) = w3 := ⟨_, rfl⟩
    have hs3 : w3.heap.size = w2.heap.size + 1 := by rw [← hw3]; simp
    rw [hw3] at hb3 m1 m2 m3
    have hb4 := hb3.alloc hb3.size (.cells #[.map (some w.heap.size), .map (some w1.heap.size), .map (some w2.heap.size)] 72)
    have m1 := m1.same (heap_alloc_old w3 (.cells #[.map (some w.heap.size), .map (some w1.heap.size), .map (some w2.heap.size)] 72) m1.lt)
    have m2 := m2.same (heap_alloc_old w3 (.cells #[.map (some w.heap.size), .map (some w1.heap.size), .map (some w2.heap.size)] 72) m2.lt)
    have m3 := m3.same (heap_alloc_old w3 (.cells #[.map (some w.heap.size), .map (some w1.heap.size), .map (some w2.heap.size)] 72) m3.lt)
    have m4 := heap_alloc_new w3 (.cells #[.map (some w.heap.size), .map (some w1.heap.size), .map (some w2.heap.size)] 72)
    obtain ⟨w4, hw4⟩ : ∃ w4, w3.alloc (.cells #[.map (some w.heap.size), .map (some w1.heap.size), .map (some w2.heap.size)] 72) = w4 := ⟨_, rfl⟩
    have hs4 : w4.heap.size = w3.heap.size + 1 := by rw [← hw4]; simp
    rw [hw4] at hb4 m1 m2 m3 m4
    obtain ⟨w5, hrun, ho5, hg5⟩ := (h.below hb4).out.store Try.underlying60 nm hn w3.heap.size hL
    have hml := h.out.lt
    have d0 : w4.cell? ⟨x, 0, none⟩ = some (.map (some m)) := by
      have := (hb4.block x hxl).trans hb
      simp [World.cell?, this]
    have hsz : w1.heap.size = w.heap.size + 1 ∧ w2.heap.size = w.heap.size + 2 ∧ w3.heap.size = w.heap.size + 3 ∧ w4.heap.size = w.heap.size + 4 := by omega
    have hrun' : (Instr.mapUpdate 60 (.map (some m)) (.string nm) (.pointer (some ⟨w3.heap.size, 0, none⟩))).run Try.prog w4 = .ok () w5 := hrun
    have key : MadePost w ρ x m L M nm (.returned (.pointer (some ⟨w3.heap.size, 0, none⟩))) w5 := by
      have old : ∀ k, k < w.heap.size → roleM ρ w.heap.size nm k = ρ k := fun k hk => by
        unfold roleM
        rw [if_neg (by omega), if_neg (by omega), if_neg (by omega), if_neg (by omega)]
      have kept : ∀ k, k < w4.heap.size → k ≠ m → w5.heap[k]? = w4.heap[k]? := fun k hk hne => hg5.block k hk fun e => hne (Option.some.inj e)
      have hstep : Step w w5 ρ (roleM ρ w.heap.size nm) fun r => r = .outer ∨ r.of nm := by
        refine ⟨hg5.os.trans hb4.os, hg5.tape.trans hb4.tape, hg5.output.trans hb4.output, Nat.le_trans hb4.size hg5.size, old, fun k hk => ?_, fun k hk hq => ?_⟩
        · have := hg5.size
          unfold roleM
          rw [if_neg (by omega), if_neg (by omega), if_neg (by omega), if_neg (by omega)]
          exact h.dom k (by omega)
        · rw [kept k (by omega) (fun e => hq .outer (by rw [e]; exact h.rm) (.inl rfl))]
          exact hb4.block k hk
      refine ⟨w3.heap.size, roleM ρ w.heap.size nm, put L nm w3.heap.size, updF M nm ⟨w.heap.size, w1.heap.size, w2.heap.size, [], [], fun _ => [], fun _ _ => [], []⟩, rfl, ⟨⟨?_, (old _ hxl).trans h.rx, (old _ hml).trans h.rm, ho5, fun p hp => ?_, hstep.dom⟩, hstep, fun nm' hne => ?_, put_len _ _ _⟩, by rw [get_put, if_pos rfl], ?_, fun e => by rw [hg] at e; cases e⟩
      · have hxm : x ≠ m := fun e => by have := h.rx; rw [e, h.rm] at this; cases this
        rw [kept x (by omega) hxm]
        exact (hb4.block x hxl).trans hb
      · rcases put_mem.1 hp with rfl | ⟨hp, hne⟩
        · simp only [updF_same]
          refine ⟨?_, (kept _ (by omega) (by omega)).trans m4, ?_, m1.same (kept _ m1.lt (by show w.heap.size ≠ m; omega)), ?_, m2.same (kept _ m2.lt (by show w1.heap.size ≠ m; omega)), ?_, m3.same (kept _ m3.lt (by show w2.heap.size ≠ m; omega)), (fun _ h => nomatch h), (fun _ h => nomatch h), (fun _ h => nomatch h)⟩
          · unfold roleM; rw [if_neg (by omega), if_neg (by omega), if_neg (by omega), if_pos (by omega)]
          · unfold roleM; rw [if_pos rfl]
          · unfold roleM; rw [if_neg (by show w1.heap.size ≠ _; omega), if_pos (by show w1.heap.size = _; omega)]
          · unfold roleM; rw [if_neg (by show w2.heap.size ≠ _; omega), if_neg (by show w2.heap.size ≠ _; omega), if_pos (by show w2.heap.size = _; omega)]
        · rw [updF_other hne]
          refine (h.meas p hp).same hstep.size old fun k hk hr => ?_
          rw [kept k (by omega) (fun e => by have := hr .outer (by rw [e]; exact h.rm); exact this)]
          exact hb4.block k hk
      · unfold meOf
        rw [get_put, if_neg (Ne.symm hne), updF_other hne]
      · unfold meOf
        rw [hg, updF_same]
        exact ⟨rfl, rfl, rfl, rfl, rfl⟩
    have KEY := Lib.hid key
    clear h hb hg hb1 hb2 hb3 hb4 m1 m2 m3 m4 hs1 hs2 hs3 hs4 ho5 hg5 hrun hsz key hml
    go_enter Try.func29, Try.ntmps29
    go_wp2_with fail
    go_ret
    exact KEY.out
end Go.Proofs.Ytobcpafalfdpkaa
