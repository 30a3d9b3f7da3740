/- The walk of DiskNil. Condition: the input's reach. -/
import Derived.Test.YtjkgcpbgacdgaaaS
import Derived.SizedLaws
import Derived.BigQuiet
namespace Go.Proofs.Ytjkgcpbgacdgaaa
open Go.RowKit Go.Sort Go.Deep Go.WideShapes Go.ChangeShapes Go.Joins
theorem SrcAt.src {w : World} {S : Nat → Prop} {v : Value} {xs : List Value} (h : SrcAt w S v xs) : Src w v xs := by
  rcases h with h | ⟨ad, c, h1, h2, h3, h4, h5, h6⟩
  · exact .inl h
  · exact .inr ⟨ad, c, h1, h5, h6⟩
theorem SrcAt.of_loose {w : World} {S : Nat → Prop} {v : Value} {l : List UInt8} (h : Loose w 5 v (Lib.byteCells l)) (hn : ∀ g, v.ownBlock = some g → ¬ S g) : SrcAt w S v (Lib.byteCells l) := by
  have h' := h
  rcases h with h | ⟨g, cap, cur, rfl, hg, h1, h2, h3, h4⟩
  · exact .inl h
  · refine .inr ⟨⟨g, 0, none⟩, cap, rfl, h1, fun _ => h'.lt rfl, fun _ => hn g rfl, fun j u hj => ?_, fun u hu => ?_⟩
    · have hj' : j < (Lib.byteCells l).length := by
        rcases Nat.lt_or_ge j (Lib.byteCells l).length with h | h
        · exact h
        · rw [List.getElem?_eq_none h] at hj; cases hj
      rw [h'.cellAt hj']
      exact hj
    · obtain ⟨z, _, rfl⟩ := List.mem_map.1 hu
      rfl
theorem zinfo5 : ∃ i, Try.prog.info? 5 = some i ∧ i.zero = some (.int .u8 0) ∧ i.size = 1 ∧ i.bytes = 1 := by
  have h := zero5
  cases hi : Try.prog.info? 5 with
  | none => rw [hi] at h; cases h
  | some i =>
    rw [hi] at h
    simp at h
    exact ⟨i, rfl, h.1, h.2.1, h.2.2⟩
theorem bytes5 : Try.prog.bytesOf 5 = 1 := by kernel_rfl
set_option maxRecDepth 100000 in
theorem bytes_sized {H : Type} {enc : TypeId × Value → H} {W : World} {a : Option Addr} {len cap : Nat} {d : DataW H} {p : List MemPlace} {ts : List TypeId} {ds : List (DataW H)} {j : Nat}
    (h : DataW.Trod enc Try.prog W 0 (fun _ => true) true 23 (.slice a len cap) d p) (ht : ts[j]? = some 23) (hd' : ds[j]? = some d) (hsz : (DataW.weightsEach Try.prog ts ds).all (· ≤ reachBytes) = true) : len ≤ 140737488351232 := by
  obtain ⟨fuel, hf⟩ := h
  rcases open_ints Try.underlying23 Try.underlying5 (by kernel_rfl) hf with ⟨hcs, _⟩ | ⟨b, l, c, zs, hcs, _, hl, hm, hz, hd, hcell, hwz⟩
  · simp [Value.cells] at hcs
    obtain ⟨rfl, rfl, rfl⟩ := hcs
    exact Nat.zero_le _
  · simp [Value.cells] at hcs
    obtain ⟨rfl, rfl, rfl⟩ := hcs
    simp only [if_true] at hz
    injection hd with hd _
    subst hd
    have h1 := sized_slice hsz ht hd' Try.underlying23
    rw [bytes5, Nat.mul_one] at h1
    have h2 : (lits (H := H) .u8 (zs.take len)).length = len := by simp [lits]; omega
    have h3 : reachBytes = 140737488351232 := rfl
    omega
set_option maxRecDepth 100000 in
set_option maxHeartbeats 1000000 in
theorem diskNil_walk (H : Type) (enc : TypeId × Value → H) (W : World) (base : Nat) (v0 v1 : Value) (d0 d1 : DataW H) (p0 p1 : List MemPlace) (h0 : DataW.Trod enc Try.prog W 0 (fun _ => true) true 9 v0 d0 p0) (o0 : Value.okWide Try.prog W .any base 9 v0) (h1 : DataW.Trod enc Try.prog W 0 (fun _ => true) true 23 v1 d1 p1) (o1 : Value.okWide Try.prog W .any base 23 v1) (hsz : (DataW.weightsEach Try.prog [9, 23] [d0, d1]).all (· ≤ reachBytes) = true) :
    Calls Try.prog 8 #[v0, v1] W fun e w' => e = .returned (.bool true) ∧ Below W.heap.size W w' := by
  obtain ⟨s, rfl⟩ := okWide_string Try.underlying9 o0
  obtain ⟨a, c, l, rfl, hc, _, hs⟩ := bytes_src h1 o1
  have b1 := bytes_sized h1 (j := 1) rfl rfl hsz
  obtain ⟨n, hn⟩ : ∃ n, l.length = n := ⟨_, rfl⟩
  have q : n ≤ 140737488351232 := by rw [← hn]; exact b1
  have HN := Lib.hid hn
  have HB := Lib.hid (show (Lib.byteCells l).length = n by rw [Lib.byteCells_length, hn])
  rw [hn] at hs hc ⊢
  have HS := Lib.hid hs
  clear h0 o0 h1 o1 b1 hsz hn hs
  obtain ⟨i0, hi, hz0, hz1, hz2⟩ := zinfo5
  have HI := Lib.hid hi
  have HZ0 := Lib.hid hz0
  have HZ1 := Lib.hid hz1
  have HZ2 := Lib.hid hz2
  clear hi hz0 hz1 hz2
  go_enter Try.func8, Try.ntmps8
  go_wp2_with fail
  refine (awake9 _).mono ?_
  rintro e w1 ⟨rfl, hb⟩
  have HA := Lib.hid hb
  clear hb
  go_wp2_with fail
  with_reducible refine (setRoom_n w1 1).mono ?_
  rintro e w9 ⟨rfl, rfl⟩
  go_wp2_with fail
  with_reducible refine (setFuse_n w1 1).mono ?_
  rintro e w9 ⟨rfl, rfl⟩
  go_wp2_with fail
  with_reducible refine (restart_n w1 _).mono ?_
  rintro e w9 ⟨rfl, rfl⟩
  go_wp2_with fail
  with_reducible refine (append_n w1 s _ _ _).mono ?_
  rintro e w9 ⟨rfl, rfl⟩
  go_wp2_with fail
  with_reducible refine (read_n w1 s).mono ?_
  rintro e w9 ⟨rfl, rfl⟩
  go_wp2_with fail
  with_reducible refine (new (n : Int) _ (by omega)).mono ?_
  rintro e w2 ⟨rfl, hd2, hb2, hs2⟩
  have hmx : max (n : Int) 0 = (n : Int) := by omega
  rw [hmx] at hd2
  have HD2 := Lib.hid hd2
  have HB2 := Lib.hid (HA.out.trans (hb2.mono HA.out.size))
  have HZ2' := Lib.hid (show ∀ x, (x = w1.heap.size ∨ x = w1.heap.size + 1) → W.heap.size ≤ x ∧ x < w2.heap.size from fun x hx => by have := HA.out.size; rcases hx with rfl | rfl <;> omega)
  clear hd2 hb2 hs2 hmx
  obtain ⟨d, hd⟩ : ∃ d, w1.heap.size + 1 = d := ⟨_, rfl⟩
  obtain ⟨m, hm⟩ : ∃ m, w1.heap.size = m := ⟨_, rfl⟩
  rw [hd, hm] at HD2 HZ2'
  rw [hd]
  obtain ⟨S, hS⟩ : ∃ S : Nat → Prop, (fun x => x = m ∨ x = d) = S := ⟨_, rfl⟩
  have HZ3 := Lib.hid (show ∀ x, S x → W.heap.size ≤ x ∧ x < w2.heap.size by subst hS; exact HZ2'.out)
  have HD3 := Lib.hid (show DiskAt w2 S d m [] (n : Int) (-1) false by subst hS; exact HD2.out)
  clear HD2 HZ2' hS hm hd
  have hsrc := ((HS.out S (fun x hx => (HZ3.out x hx).1)).later (HB2.out.alloc HB2.out.size (.cells #[] 5))).src
  have hlo : Loose (w2.alloc (.cells #[] 5)) 5 (.slice (some ⟨w2.heap.size, 0, none⟩) 0 0) [] := .inr ⟨w2.heap.size, 0, #[], rfl, heap_alloc_new w2 _, Nat.le_refl _, Nat.zero_le _, Nat.le_refl _, rfl⟩
  have HSRC := Lib.hid hsrc
  have HLO := Lib.hid hlo
  clear hsrc hlo
  go_wp2_with (at_builtin; go_must (refine wpList_append_src rfl (.tmp 43) (.tmp 44) 23 rfl 5 i0 (.int .u8 0) Try.underlying23 HI.out HZ0.out HZ1.out HZ2.out rfl (.slice (some ⟨w2.heap.size, 0, none⟩) 0 0) [] rfl HLO.out (.slice a n c) (Lib.byteCells l) rfl HSRC.out (by rw [HB.out]; simp; omega) ?_); intro v4 w4 hl4 hg4 hat4)
  rw [List.nil_append] at hl4
  obtain ⟨a4, c4, rfl⟩ := hl4.form
  rw [HB.out] at hl4 hat4 ⊢
  have hbl4 : Below w2.heap.size w2 w4 := ((Below.refl _ _).alloc (Nat.le_refl _) _).grown hg4 (by simp) (fun j hj => by cases hj; exact Nat.le_refl _)
  have hblk : ∀ g, (Value.slice a4 n c4).ownBlock = some g → w2.heap.size ≤ g ∧ g < w4.heap.size := fun g hg => by
    refine ⟨?_, hl4.lt hg⟩
    rcases hat4 with h | h
    · rw [h] at hg; cases hg; exact Nat.le_refl _
    · rw [h] at hg; cases hg; simp
  have HL4 := Lib.hid hl4
  have HBLK := Lib.hid hblk
  have HB4 := Lib.hid (HB2.out.trans (hbl4.mono HB2.out.size))
  have HD4 := Lib.hid (HD3.out.later hbl4)
  have HZ4 := Lib.hid (show ∀ x, S x → W.heap.size ≤ x ∧ x < w4.heap.size from fun x hx => by have := HZ3.out x hx; have := hbl4.size; omega)
  have hns : ∀ g, (Value.slice a4 n c4).ownBlock = some g → ¬ S g := fun g hg hsg => by have := hblk g hg; have := HZ3.out g hsg; omega
  have HNS := Lib.hid hns
  clear hl4 hg4 hat4 hbl4 hblk hns HSRC HLO
  refine (append w4 S d m [] (n : Int) (-1) false nmA _ (Lib.byteCells l) (by decide) HD4.out (by omega) (by omega) (by omega) (by omega) (SrcAt.of_loose HL4.out HNS.out) (by rw [HB.out, lens_nil]; omega) (by unfold maxLen; simp)).mono ?_
  rintro e w5 ⟨L', jj, err, rfl, ht, hd5, hsays⟩
  obtain ⟨rfl, ⟨f, v, rfl⟩, e2, e3⟩ := app_good nameA (by rw [HB.out, lens_nil]; omega) hsays
  rw [e2, e3, add_nil] at hd5
  have HD5 := Lib.hid hd5
  have HB5 := Lib.hid (HB4.out.trans (ht.below HB4.out.size (fun x hx => (HZ4.out x hx).1)))
  have HZ5 := Lib.hid (Withs HZ4.out HB4.out.size ht.size)
  have hl5 : Loose w5 5 (.slice a4 n c4) (Lib.byteCells l) := HL4.out.same (fun g hg => ht.block g (HL4.out.lt hg) (HNS.out g hg))
  have hinc := Inc.start hl5
  rw [HN.out] at hinc
  have HINC := Lib.hid hinc
  have HNS5 := Lib.hid (show ∀ x, With S w4 w5 x → ¬ ((Value.slice a4 n c4).ownBlock = some x) from fun x hx hg => by
    rcases hx with hx | hx
    · exact HNS.out x hg hx
    · have := HBLK.out x hg; omega)
  clear ht hd5 hsays e2 e3 hl5 hinc
  obtain ⟨S5, hS5⟩ : ∃ S5 : Nat → Prop, With S w4 w5 = S5 := ⟨_, rfl⟩
  rw [hS5] at HD5 HZ5 HNS5
  clear hS5
  go_wp2_with fail
  go_loopw [51] (fun i wr => ∃ k : Nat, k ≤ n ∧ i = .int .i64 k ∧ Inc (.slice a4 n c4) n w5 wr) (fun i _ => n - (intOf i).toNat)
  case atStart => exact ⟨0, Nat.zero_le _, rfl, HINC.out⟩
  case round =>
    obtain ⟨k, hk, rfl, hI⟩ := hrel
    by_cases hlt : k < n
    · obtain ⟨g, cap, z, hv, z0, z1, hc0, hfz, hset⟩ := hI.at hlt
      cases hv
      have HSET := Lib.hid hset
      clear hset hI
      go_wp2_with fail
      refine ⟨⟨k + 1, by omega, by go_num, HSET.out ((z + 1) % 256) (by omega) (by omega)⟩, by simp [intOf]; omega⟩
    · have hkn : k = n := by omega
      subst hkn
      obtain ⟨xs, hxs, hL, ht, hsz⟩ := hI
      have HDr := Lib.hid (HD5.out.beside ht (fun x hx _ => HNS5.out x hx))
      have HBr := Lib.hid (HB5.out.trans (ht.below HB5.out.size (fun x hx => by have := HBLK.out x hx; have := HB2.out.size; omega)))
      have HZr := Lib.hid (show ∀ x, S5 x → W.heap.size ≤ x ∧ x < wr.heap.size from fun x hx => by have := HZ5.out x hx; omega)
      have hby : Bytes [⟨nmA, f, v, Lib.byteCells l, 0⟩] := fun x hx => by
        rw [List.mem_singleton] at hx
        subst hx
        exact ⟨l, rfl, by rw [HN.out]; omega⟩
      have HBY := Lib.hid hby
      have hg : getE [⟨nmA, f, v, Lib.byteCells l, 0⟩] false nmA = (some ⟨nmA, f, v, Lib.byteCells l, 0⟩, 0) := by
        have hl := look_one ⟨nmA, f, v, Lib.byteCells l, 0⟩ nmA rfl
        simp [getE, hl]
      have HG := Lib.hid hg
      clear hxs hL ht hsz hby hg HINC
      go_wp2_with fail
      refine (read wr S5 d m [⟨nmA, f, v, Lib.byteCells l, 0⟩] (k : Int) (-1) false nmA (by decide) HDr.out HBY.out).mono ?_
      rw [HG.out]
      rintro e w6 ⟨v6, rfl, hown, hb6⟩
      have hbt : bytesOf (some (⟨nmA, f, v, Lib.byteCells l, 0⟩ : Ent)) = Lib.byteCells l := rfl
      simp only [] at hown
      rw [hbt, HB.out] at hown
      have hl6 := Loose.of_row hown
      obtain ⟨a6, c6, rfl⟩ := hl6.form
      have hblk6 : ∀ g, (Value.slice a6 (Lib.byteCells l).length c6).ownBlock = some g → wr.heap.size ≤ g := fun g hg => (hown.lt g hg).1
      have HBL6 := Lib.hid hblk6
      have hinc := Inc.start hl6
      rw [HN.out] at hinc
      rw [HB.out] at hinc HBL6 ⊢
      have HINC := Lib.hid hinc
      have HD6 := Lib.hid (HDr.out.later hb6)
      have HB6 := Lib.hid (HBr.out.trans (hb6.mono HBr.out.size))
      have HZ6 := Lib.hid (show ∀ x, S5 x → W.heap.size ≤ x ∧ x < w6.heap.size from fun x hx => by have := HZr.out x hx; have := hb6.size; omega)
      clear hown hb6 hl6 hblk6 hinc hbt
      go_wp2_with fail
      go_loopw [68] (fun i w => ∃ j : Nat, j ≤ k ∧ i = .int .i64 j ∧ Inc (.slice a6 k c6) k w6 w) (fun i _ => k - (intOf i).toNat)
      case atStart => exact ⟨0, Nat.zero_le _, rfl, HINC.out⟩
      case round =>
        obtain ⟨j, hj, rfl, hI⟩ := hrel
        by_cases hlt : j < k
        · obtain ⟨g, cap, z, hv, z0, z1, hc0, hfz, hset⟩ := hI.at hlt
          cases hv
          have HSET := Lib.hid hset
          clear hset hI
          go_wp2_with fail
          refine ⟨⟨j + 1, by omega, by go_num, HSET.out ((z + 1) % 256) (by omega) (by omega)⟩, by simp [intOf]; omega⟩
        · have hjk : j = k := by omega
          subst hjk
          obtain ⟨xs, hxs, hL, ht, hsz⟩ := hI
          have HNS6 := Lib.hid (show ∀ x, S5 x → ¬ ((Value.slice a6 j c6).ownBlock = some x) from fun x hx hg => by have := HBL6.out x hg; have := HZr.out x hx; omega)
          have HDq := Lib.hid (HD6.out.beside ht (fun x hx _ => HNS6.out x hx))
          have HBq := Lib.hid (HB6.out.trans (ht.below HB6.out.size (fun x hx => by have := HBL6.out x hx; have := HBr.out.size; omega)))
          clear hxs hL ht hsz HINC
          go_wp2_with fail
          refine (read wr S5 d m [⟨nmA, f, v, Lib.byteCells l, 0⟩] (j : Int) (-1) false nmA (by decide) HDq.out HBY.out).mono ?_
          rw [HG.out]
          rintro e w8 ⟨v8, rfl, hown, hb8⟩
          have hbt : bytesOf (some (⟨nmA, f, v, Lib.byteCells l, 0⟩ : Ent)) = Lib.byteCells l := rfl
          simp only [] at hown
          rw [hbt, HB.out] at hown
          obtain ⟨a8, c8, rfl⟩ : ∃ a c, v8 = .slice a j c := by
            rcases hown.2 with ⟨rfl, h0⟩ | ⟨g, cap, cur, rfl, _⟩
            · exact ⟨none, 0, by rw [← h0]⟩
            · exact ⟨_, _, rfl⟩
          have HB8 := Lib.hid (HBq.out.trans (hb8.mono HBq.out.size))
          have hx1 := str_of_row hown HN.out.symm
          have hx2 := str_of_src ((HS.out S (fun x hx => (HZ3.out x hx).1)).later HB8.out)
          have HX1 := Lib.hid hx1
          have HX2 := Lib.hid hx2
          clear hown hb8 hbt hx1 hx2
          go_wp2_with fail
          with_reducible refine (sync_n w8 s).mono ?_
          rintro e w9 ⟨rfl, rfl⟩
          go_wp2_with fail
          with_reducible refine (rename_n w8 s s).mono ?_
          rintro e w9 ⟨rfl, rfl⟩
          go_wp2_with fail
          with_reducible refine (remove_n w8 s).mono ?_
          rintro e w9 ⟨rfl, rfl⟩
          go_wp2_with fail
          with_reducible refine (cut_n w8 s 0).mono ?_
          rintro e w9 ⟨rfl, rfl⟩
          go_wp2_with fail
          with_reducible refine (down_n w8).mono ?_
          rintro e w9 ⟨rfl, rfl⟩
          go_wp2_with fail
          with_reducible refine (used_n w8).mono ?_
          rintro e w9 ⟨rfl, rfl⟩
          go_wp2_with fail
          with_reducible refine (list_n w8).mono ?_
          rintro e w9 ⟨rfl, rfl⟩
          have hx1 := HX1.out
          have hx2 := HX2.out
          obtain ⟨U, hU⟩ : ∃ A, (⟨l.toArray⟩ : ByteArray) = A := ⟨_, rfl⟩
          rw [hU] at hx1 hx2
          clear hU
          go_wp2_with fail
          go_ret
          exact ⟨rfl, HB8.out⟩
end Go.Proofs.Ytjkgcpbgacdgaaa
