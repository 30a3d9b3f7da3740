/- The law MergeParts, walked. Condition: how much came in. -/
import Derived.Test.YtblpjhgbckfaeaaP
import Derived.Test.YtblpjhgbckfaeaaT
namespace Go.Proofs.Ytblpjhgbckfaeaa
open Go.RowKit Go.Sort Go.Deep Go.WideShapes Go.ChangeShapes
theorem part_wrap (z : Int) (n : Nat) (hn : n ≤ 1048576) : ∃ k : Nat, wrap64 ((IntKind.u64.wrap z).tmod ((n : Int) + 1)) = (k : Int) ∧ k ≤ n := by
  have h0 : 0 ≤ IntKind.u64.wrap z := by
    simp only [IntKind.wrap, IntKind.bits, IntKind.signed]
    simp
    omega
  rw [Int.tmod_eq_emod_of_nonneg h0]
  have h1 := Int.emod_nonneg (IntKind.u64.wrap z) (show ((n : Int) + 1) ≠ 0 by omega)
  have h2 := Int.emod_lt_of_pos (IntKind.u64.wrap z) (show (0 : Int) < (n : Int) + 1 by omega)
  generalize IntKind.u64.wrap z % ((n : Int) + 1) = r at h1 h2
  refine ⟨r.toNat, ?_, by omega⟩
  have : wrap64 r = r := by unfold wrap64; omega
  rw [this]; omega
theorem slice_to22 (a : Option Addr) (n c k : Nat) (hk : k ≤ c) (w' : World) : (Instr.slice 22 (.slice a n c) none (some (.int .i64 (k : Int))) none).run Try.prog w' = .ok (.slice a k c) w' := by
  have h1 : ¬ (c : Int) < k := by omega
  simp [Instr.slice, Instr.sliceBounds, Instr.sliceBound, asIntOf, go_sem]
  omega
theorem slice_from22 (a : Option Addr) (n c k : Nat) (hk : k ≤ n) (w' : World) : (Instr.slice 22 (.slice a n c) (some (.int .i64 (k : Int))) none none).run Try.prog w' = .ok (.slice (if c = k then a else a.map (·.add (k * 1))) (n - k) (c - k)) w' := by
  have hso : (Try.prog.info? 24).map (·.size) = some 1 := by kernel_rfl
  simp [Instr.slice, Instr.sliceBounds, Instr.sliceBound, asIntOf, go_sem, hk]
theorem lists_two {w : World} {g : Nat} {u v : Value} {A B : List CC} (hg : w.heap[g]? = some (.cells #[u, v] 24 (0, 0))) (hu : ColsIn w u A) (hv : ColsIn w v B) : ListsIn w (.slice (some ⟨g, 0, none⟩) 2 2) [⟨u, A⟩, ⟨v, B⟩] := by
  refine ⟨_, 2, rfl, fun k x hx => ?_⟩
  match k, hx with
  | 0, hx =>
    cases hx
    exact ⟨hu, g, 0, rfl, by simp [World.cell?, hg]⟩
  | 1, hx =>
    cases hx
    exact ⟨hv, g, 0, rfl, by simp [World.cell?, hg]⟩
theorem merged_len {T : List Tp} {C : List CC} (h : Merged kLtP T (C.map colOf)) : (trC C).length ≤ T.length ∧ C.length ≤ T.length := by
  have h1 := flat_le h
  have h2 := cols_le h.rises.full
  rw [List.length_map] at h2
  rw [trC_flat]
  omega
theorem lists_take {w : World} {a : Option Addr} {n c k : Nat} {LS : List LL} (h : ListsIn w (.slice a n c) LS) (hn : LS.length = n) (hk : k ≤ n) : ListsIn w (.slice a k c) (LS.take k) := by
  obtain ⟨a', c', hv, h⟩ := h
  injection hv with e1 e2 e3
  subst e1 e3
  refine ⟨a, c, by rw [List.length_take, hn, Nat.min_eq_left hk], fun i x hx => h i x ?_⟩
  rw [List.getElem?_take] at hx
  split at hx
  · exact hx
  · cases hx
theorem lists_drop {w : World} {a : Option Addr} {n c k : Nat} {LS : List LL} (h : ListsIn w (.slice a n c) LS) (hn : LS.length = n) (hk : k ≤ n) (hc : n ≤ c) : ListsIn w (.slice (if c = k then a else a.map (·.add (k * 1))) (n - k) (c - k)) (LS.drop k) := by
  obtain ⟨a', c', hv, h⟩ := h
  injection hv with e1 e2 e3
  subst e1 e3
  refine ⟨_, c - k, by rw [List.length_drop, hn], fun i x hx => ?_⟩
  rw [List.getElem?_drop] at hx
  obtain ⟨h1, b, o, rfl, h2⟩ := h (k + i) x hx
  have hlt : k + i < n := by rw [← hn]; exact (List.getElem?_eq_some_iff.1 hx).1
  rw [if_neg (by omega)]
  refine ⟨h1, b, o + k * 1, by simp [add_lit], ?_⟩
  rw [Nat.mul_one, Nat.add_assoc]
  exact h2
set_option maxRecDepth 100000 in
set_option maxHeartbeats 4000000 in
theorem mergeParts_walk (H : Type) (enc : TypeId × Value → H) (W : World) (base : Nat) (v0 v1 : Value) (d0 d1 : DataW H) (p0 p1 : List MemPlace) (h0 : DataW.Trod enc Try.prog W 0 (fun _ => true) true 22 v0 d0 p0) (o0 : Value.okWide Try.prog W .any base 22 v0) (h1 : DataW.Trod enc Try.prog W 0 (fun _ => true) true 3 v1 d1 p1) (o1 : Value.okWide Try.prog W .any base 3 v1) (hk : Rows.uptoSmall H [d0, d1] = true) :
    Calls Try.prog 4 #[v0, v1] W fun e w' => e = .returned (.bool true) ∧ Below W.heap.size W w' := by
  obtain ⟨LS, hin, hB, a, c, rfl, hlc⟩ := lists_in h0 o0
  obtain ⟨z, rfl, _⟩ := okWide_int Try.underlying3 o1
  obtain ⟨g1, g2, g3⟩ := lB_le LS
  have hbd : lB LS ≤ 1048576 := by
    have : Rows.uptoBulkAll [d0, d1] ≤ 1048576 := of_decide_eq_true hk
    simp only [Rows.uptoBulkAll] at this
    omega
  obtain ⟨n, hn⟩ : ∃ n, LS.length = n := ⟨_, rfl⟩
  rw [hn] at hin hlc g2 ⊢
  have HIN := Lib.hid hin
  have HG1 := Lib.hid (Nat.le_trans g1 hbd)
  have HG3 := Lib.hid (fun x hx => Nat.le_trans (g3 x hx) hbd)
  have HN := Lib.hid hn
  have hn2 := Nat.le_trans g2 hbd
  clear h0 o0 h1 o1 hk hB g1 g2 g3 hbd hin hn
  go_enter Try.func4, Try.ntmps4
  go_wp2_with fail
  refine (awake W).mono ?_
  rintro e w1 ⟨rfl, hb1⟩
  have HB1 := Lib.hid hb1
  clear hb1
  go_wp2_with fail
  obtain ⟨k, hk, hkn⟩ := part_wrap z n hn2
  rw [hk]
  have HINA := Lib.hid (lists_take HIN.out HN.out hkn)
  have HINB := Lib.hid (lists_drop HIN.out HN.out hkn hlc)
  have hsa := slice_to22 a n c k (by omega)
  have hsb := slice_from22 a n c k hkn
  obtain ⟨a2, ha2⟩ : ∃ a2, (if c = k then a else a.map (·.add (k * 1))) = a2 := ⟨_, rfl⟩
  rw [ha2] at HINB hsb
  have hta : trL (LS.take k) ++ trL (LS.drop k) = trL LS := by rw [← trL_append, List.take_append_drop]
  have HTA := Lib.hid hta
  have hla : (trL (LS.take k)).length ≤ 1048576 ∧ (trL (LS.drop k)).length ≤ 1048576 := by
    have := congrArg List.length hta
    rw [List.length_append] at this
    have := HG1.out
    omega
  have HLA := Lib.hid hla
  have HMA := Lib.hid (fun (w' : World) (hb : Below W.heap.size W w') => merge6 w' (.slice a k c) (LS.take k) (HINA.out.later hb) (by have := HLA.out.1; omega) (by rw [List.length_take]; omega) (fun x hx => by have := HG3.out x (List.mem_of_mem_take hx); omega))
  have HMB := Lib.hid (fun (w' : World) (hb : Below W.heap.size W w') => merge6 w' (.slice a2 (n - k) (c - k)) (LS.drop k) (HINB.out.later hb) (by have := HLA.out.2; omega) (by rw [List.length_drop]; have := HN.out; omega) (fun x hx => by have := HG3.out x (List.mem_of_mem_drop hx); omega))
  clear hk ha2 hta hla
  go_region_law (first
    | (go_simp; go_at_call 6; with_reducible refine (HMA.out _ (by first | exact HB1.out | exact HB1.out.drew)).mono ?_; intro e w2 h; unfold MergePost at h; obtain ⟨vA, CA, he, hcA, hmA, hbA⟩ := h; obtain ⟨aA, cA, hvA⟩ := cols_form hcA; subst hvA; subst he; have HCA := Lib.hid hcA; have HMA2 := Lib.hid hmA; have HBA := Lib.hid ((HB1.out.drew).trans (hbA.mono HB1.out.drew.size)); clear hcA hmA hbA; go_wp2_with fail)
    | (go_simp; go_at_call 6; with_reducible refine (HMB.out _ HBA.out).mono ?_; intro e w3 h; unfold MergePost at h; obtain ⟨vB, CB, he, hcB, hmB, hbB⟩ := h; obtain ⟨aB, cB, hvB⟩ := cols_form hcB; subst hvB; subst he; have HCA3 := Lib.hid (HCA.out.later hbB); have HCB := Lib.hid hcB; have HMB2 := Lib.hid hmB; have HBB := Lib.hid (HBA.out.trans (hbB.mono HBA.out.size)); have hbC := (Below.refl w3.heap.size w3).alloc (Nat.le_refl _) (.cells #[(.slice aA CA.length cA), (.slice aB CB.length cB)] 24); have HCC := Lib.hid (merge6 (w3.alloc (.cells #[(.slice aA CA.length cA), (.slice aB CB.length cB)] 24)) (.slice (some ⟨w3.heap.size, 0, none⟩) 2 2) [⟨.slice aA CA.length cA, CA⟩, ⟨.slice aB CB.length cB, CB⟩] (lists_two (heap_alloc_new w3 _) (HCA3.out.later hbC) (HCB.out.later hbC)) (by have h1 := (merged_len HMA2.out).1; have h2 := (merged_len HMB2.out).1; have := HLA.out; simp only [trL, List.flatMap_cons, List.flatMap_nil, List.append_nil, List.length_append]; omega) (by simp) (by intro x hx; have h1 := (merged_len HMA2.out).2; have h2 := (merged_len HMB2.out).2; have := HLA.out; rcases List.mem_cons.1 hx with rfl | hx; (simp only; omega); (rw [List.mem_singleton.1 hx]; simp only; omega))); have HBC := Lib.hid (HBB.out.trans (hbC.mono HBB.out.size)); clear hcB hmB hbB hbC; go_wp2_with fail)
    | (go_simp; go_at_call 6; with_reducible refine HCC.out.mono ?_; intro e w4 h; unfold MergePost at h; obtain ⟨vC, CC', he, hcC, hmC, hb4⟩ := h; subst he; have HCC' := Lib.hid hcC; have HMC := Lib.hid hmC; have HB4 := Lib.hid (HBC.out.trans (hb4.mono HBC.out.size)); clear hcC hmC hb4; go_wp2_with fail))
  all_goals
    clear hsa hsb
    go_wp2_with fail
    refine (merge6 w4 (.slice a n c) LS (HIN.out.later HB4.out) (by have := HG1.out; omega) (by have := HN.out; omega) (fun x hx => by have := HG3.out x hx; omega)).mono ?_
    intro e w5 h
    unfold MergePost at h
    obtain ⟨vD, CD, he, hcD, hmD, hbD⟩ := h
    subst he
    have hM : Merged kLtP (trC CA ++ trC CB) (CC'.map colOf) := by
      have := HMC.out
      simpa only [trL, List.flatMap_cons, List.flatMap_nil, List.append_nil] using this
    rw [trC_flat, trC_flat] at hM
    have hM4 : Merged kLtP (trL (LS.take k) ++ trL (LS.drop k)) (CD.map colOf) := by rw [HTA.out]; exact hmD
    have heq := Merged.unique kLtP_irr kLtP_tr hM (Merged.parts kLtP_irr HMA2.out HMB2.out hM4)
    have hle := merged_len HMC.out
    have hle2 : (trL [⟨.slice aA CA.length cA, CA⟩, ⟨.slice aB CB.length cB, CB⟩]).length ≤ 2097152 := by
      have h1 := (merged_len HMA2.out).1
      have h2 := (merged_len HMB2.out).1
      have := HLA.out
      simp only [trL, List.flatMap_cons, List.flatMap_nil, List.append_nil, List.length_append]
      omega
    have HS := Lib.hid (sameCols w5 vC vD CC' CD (HCC'.out.later hbD) hcD heq (by omega) (fun y hy => by
      have h1 := pts_le (c := colOf y) (C := CC'.map colOf) (List.mem_map_of_mem hy)
      rw [← trC_flat] at h1
      have h2 : (colOf y).pts = y.pts := rfl
      rw [h2] at h1
      omega))
    have HB5 := Lib.hid (HB4.out.trans (hbD.mono HB4.out.size))
    clear hcD hmD hbD hM hM4 heq hle hle2
    go_wp2_with fail
    refine HS.out.mono ?_
    rintro e w6 ⟨rfl, hb6⟩
    have HB6 := Lib.hid (HB5.out.trans (hb6.mono HB5.out.size))
    clear hb6
    go_wp2_with fail
    go_ret
    exact ⟨rfl, HB6.out⟩
end Go.Proofs.Ytblpjhgbckfaeaa
