/- The walk of DiskKeeps. Condition: the input's bulk. -/
import Derived.Test.YtjkgcpbgacdgaaaP
import Derived.BigQuiet
namespace Go.Proofs.Ytjkgcpbgacdgaaa
open Go.RowKit Go.Sort Go.Deep Go.WideShapes Go.ChangeShapes Go.Joins
theorem Withs {W w w' : World} {S : Nat → Prop} (h : ∀ x, S x → W.heap.size ≤ x ∧ x < w.heap.size) (hb : W.heap.size ≤ w.heap.size) (ht : w.heap.size ≤ w'.heap.size) : ∀ x, With S w w' x → W.heap.size ≤ x ∧ x < w'.heap.size := fun x hx => by
  rcases hx with hx | hx
  · have := h x hx; omega
  · exact ⟨by omega, hx.2⟩
set_option maxRecDepth 100000 in
set_option maxHeartbeats 1000000 in
theorem diskKeeps_walk (H : Type) (enc : TypeId × Value → H) (W : World) (base : Nat) (v0 v1 v2 v3 : Value) (d0 d1 d2 d3 : DataW H) (p0 p1 p2 p3 : List MemPlace) (h0 : DataW.Trod enc Try.prog W 0 (fun _ => true) true 9 v0 d0 p0) (o0 : Value.okWide Try.prog W .any base 9 v0) (h1 : DataW.Trod enc Try.prog W 0 (fun _ => true) true 23 v1 d1 p1) (o1 : Value.okWide Try.prog W .any base 23 v1) (h2 : DataW.Trod enc Try.prog W 0 (fun _ => true) true 23 v2 d2 p2) (o2 : Value.okWide Try.prog W .any base 23 v2) (h3 : DataW.Trod enc Try.prog W 0 (fun _ => true) true 23 v3 d3 p3) (o3 : Value.okWide Try.prog W .any base 23 v3) (hk : Rows.uptoSmall H [d0, d1, d2, d3] = true) :
    Calls Try.prog 5 #[v0, v1, v2, v3] W fun e w' => e = .returned (.bool true) ∧ Below W.heap.size W w' := by
  obtain ⟨s, rfl⟩ := okWide_string Try.underlying9 o0
  have hsl : s.size ≤ maxLen := by
    simp only [Value.okWide, Try.underlying9, Cell.okWide, Cell.ok] at o0
    have : IntKind.i64.max = 9223372036854775807 := by decide
    unfold maxLen
    omega
  obtain ⟨a1, c1, l1, rfl, hc1, _, hs1⟩ := bytes_src h1 o1
  obtain ⟨a2, c2, l2, rfl, hc2, _, hs2⟩ := bytes_src h2 o2
  obtain ⟨a3, c3, l3, rfl, hc3, _, hs3⟩ := bytes_src h3 o3
  have b1 := bytes_bulk h1
  have b2 := bytes_bulk h2
  have b3 := bytes_bulk h3
  have hk : Rows.uptoBulk d0 + (Rows.uptoBulk d1 + (Rows.uptoBulk d2 + (Rows.uptoBulk d3 + 0))) ≤ 1048576 := of_decide_eq_true hk
  obtain ⟨n1, hn1⟩ : ∃ n, l1.length = n := ⟨_, rfl⟩
  obtain ⟨n2, hn2⟩ : ∃ n, l2.length = n := ⟨_, rfl⟩
  obtain ⟨n3, hn3⟩ : ∃ n, l3.length = n := ⟨_, rfl⟩
  have q1 : n1 ≤ 1048576 := by omega
  have q2 : n2 ≤ 1048576 := by omega
  have q3 : n3 ≤ 1048576 := by omega
  have HN1 := Lib.hid hn1
  have HN2 := Lib.hid hn2
  have HN3 := Lib.hid hn3
  have HB1' := Lib.hid (show (Lib.byteCells l1).length = n1 by rw [Lib.byteCells_length, hn1])
  have HB2' := Lib.hid (show (Lib.byteCells l2).length = n2 by rw [Lib.byteCells_length, hn2])
  have HSL := Lib.hid hsl
  rw [hn1] at hs1 hc1 ⊢
  rw [hn2] at hs2 hc2 ⊢
  rw [hn3] at hs3 hc3 ⊢
  have HS1 := Lib.hid hs1
  have HS2 := Lib.hid hs2
  have HS3 := Lib.hid hs3
  clear h0 o0 h1 o1 h2 o2 h3 o3 b1 b2 b3 hk hn1 hn2 hn3 hs1 hs2 hs3 hsl
  go_enter Try.func5, Try.ntmps5
  go_wp2_with fail
  refine (awake9 _).mono ?_
  rintro e w1 ⟨rfl, hb⟩
  have HA := Lib.hid hb
  clear hb
  go_wp2_with fail
  with_reducible refine (new ((n1 : Int) + (n2 : Int)) _ (by omega)).mono ?_
  rintro e w2 ⟨rfl, hd2, hb2, hs2⟩
  have hmx : max ((n1 : Int) + (n2 : Int)) 0 = (n1 : Int) + (n2 : Int) := by omega
  rw [hmx] at hd2
  have HD2 := Lib.hid hd2
  have HB2 := Lib.hid (HA.out.trans (hb2.mono HA.out.size))
  have HZ2 := Lib.hid (show ∀ x, (x = w1.heap.size ∨ x = w1.heap.size + 1) → W.heap.size ≤ x ∧ x < w2.heap.size from fun x hx => by have := HA.out.size; rcases hx with rfl | rfl <;> omega)
  clear hd2 hb2 hs2 hmx
  obtain ⟨d, hd⟩ : ∃ d, w1.heap.size + 1 = d := ⟨_, rfl⟩
  obtain ⟨m, hm⟩ : ∃ m, w1.heap.size = m := ⟨_, rfl⟩
  rw [hd, hm] at HD2 HZ2
  rw [hd]
  obtain ⟨S, hS⟩ : ∃ S : Nat → Prop, (fun x => x = m ∨ x = d) = S := ⟨_, rfl⟩
  have HZ3 := Lib.hid (show ∀ x, S x → W.heap.size ≤ x ∧ x < w2.heap.size by subst hS; exact HZ2.out)
  have HD3 := Lib.hid (show DiskAt w2 S d m [] ((n1 : Int) + (n2 : Int)) (-1) false by subst hS; exact HD2.out)
  clear HD2 HZ2 hS hm hd
  cases hnm : nameB s.data.toList with
  | false =>
    have HNM := Lib.hid hnm
    clear hnm
    go_wp2_with fail
    refine (append w2 S d m [] ((n1 : Int) + (n2 : Int)) (-1) false s _ (Lib.byteCells l1) HSL.out HD3.out (by omega) (by omega) (by omega) (by omega) ((HS1.out S (fun x hx => (HZ3.out x hx).1)).later HB2.out) ?_ ?_).mono ?_
    · rw [HB1'.out, lens_nil]; omega
    · unfold maxLen; simp
    rintro e w4 ⟨L', jj, err, rfl, ht, hd4, hsays⟩
    obtain ⟨rfl, rfl, e2, e3⟩ := app_bad HNM.out hsays
    rw [e2, e3] at hd4
    have HD4 := Lib.hid hd4
    have HB4 := Lib.hid (HB2.out.trans (ht.below HB2.out.size (fun x hx => (HZ3.out x hx).1)))
    have HZ4 := Lib.hid (Withs HZ3.out HB2.out.size ht.size)
    clear ht hd4 hsays e2 e3
    obtain ⟨S4, hS4⟩ : ∃ S4 : Nat → Prop, With S w2 w4 = S4 := ⟨_, rfl⟩
    rw [hS4] at HD4 HZ4
    clear hS4
    go_wp2_with fail
    refine (sync w4 S4 d m [] ((n1 : Int) + (n2 : Int)) (-1) false s HSL.out HD4.out (by omega) (by omega)).mono ?_
    obtain ⟨e1, e2, e3, e4⟩ := sync_nil s
    rw [e1, e2, e3, e4]
    clear e1 e2 e3 e4
    rintro e w5 ⟨rfl, ht, hsz, hd5⟩
    have HD5 := Lib.hid hd5
    have HB5 := Lib.hid (HB4.out.trans (ht.below HB4.out.size (fun x hx => (HZ4.out x hx).1)))
    have HZ5 := Lib.hid (show ∀ x, S4 x → W.heap.size ≤ x ∧ x < w5.heap.size from fun x hx => by have := HZ4.out x hx; omega)
    clear ht hd5 hsz
    go_wp2_with fail
    refine (append w5 S4 d m [] ((n1 : Int) + (n2 : Int)) (-1) false s _ (Lib.byteCells l2) HSL.out HD5.out (by omega) (by omega) (by omega) (by omega) ((HS2.out S4 (fun x hx => (HZ5.out x hx).1)).later HB5.out) ?_ ?_).mono ?_
    · rw [HB2'.out, lens_nil]; omega
    · unfold maxLen; simp
    rintro e w6 ⟨L', jj6, err, rfl, ht, hd6, hsays⟩
    obtain ⟨rfl, rfl, e2, e3⟩ := app_bad HNM.out hsays
    rw [e2, e3] at hd6
    have HD6 := Lib.hid hd6
    have HB6 := Lib.hid (HB5.out.trans (ht.below HB5.out.size (fun x hx => (HZ5.out x hx).1)))
    have HZ6 := Lib.hid (Withs HZ5.out HB5.out.size ht.size)
    clear ht hd6 hsays e2 e3
    obtain ⟨S6, hS6⟩ : ∃ S6 : Nat → Prop, With S4 w5 w6 = S6 := ⟨_, rfl⟩
    rw [hS6] at HD6 HZ6
    clear hS6
    go_wp2_with fail
    refine (restart w6 S6 d m [] ((n1 : Int) + (n2 : Int)) (-1) false _ l3 (fun x hx => (HZ6.out x hx).2) HD6.out Good.nil (by simp) ((HS3.out S6 (fun x hx => (HZ6.out x hx).1)).later HB6.out)).mono ?_
    rintro e w7 ⟨rfl, ht, hd7⟩
    have HD7 := Lib.hid hd7
    have HB7 := Lib.hid (HB6.out.trans (ht.below HB6.out.size (fun x hx => (HZ6.out x hx).1)))
    clear ht hd7
    go_wp2_with fail
    refine (read w7 S6 d m (rst l3 []) ((n1 : Int) + (n2 : Int)) (-1) false s HSL.out HD7.out (fun _ h => nomatch h)).mono ?_
    rintro e w8 ⟨v8, rfl, hown, hb8⟩
    have HB8 := Lib.hid (HB7.out.trans (hb8.mono HB7.out.size))
    clear hown hb8
    have hg : (getE (rst l3 []) false s).2 = 6 := rfl
    rw [hg]
    clear hg
    go_wp2_with fail
    refine (rname s w8 HSL.out).mono ?_
    rintro e w9 ⟨rfl, rfl⟩
    rw [HNM.out]
    go_wp2_with fail
    go_ret
    exact ⟨rfl, HB8.out⟩
  | true =>
    have HNM := Lib.hid hnm
    clear hnm
    go_wp2_with fail
    refine (append w2 S d m [] ((n1 : Int) + (n2 : Int)) (-1) false s _ (Lib.byteCells l1) HSL.out HD3.out (by omega) (by omega) (by omega) (by omega) ((HS1.out S (fun x hx => (HZ3.out x hx).1)).later HB2.out) ?_ ?_).mono ?_
    · rw [HB1'.out, lens_nil]; omega
    · unfold maxLen; simp
    rintro e w4 ⟨L', jj, err, rfl, ht, hd4, hsays⟩
    obtain ⟨rfl, ⟨f, v, rfl⟩, e2, e3⟩ := app_good HNM.out (by rw [HB1'.out, lens_nil]; omega) hsays
    rw [e2, e3, add_nil] at hd4
    have HD4 := Lib.hid hd4
    have HB4 := Lib.hid (HB2.out.trans (ht.below HB2.out.size (fun x hx => (HZ3.out x hx).1)))
    have HZ4 := Lib.hid (Withs HZ3.out HB2.out.size ht.size)
    clear ht hd4 hsays e2 e3
    obtain ⟨S4, hS4⟩ : ∃ S4 : Nat → Prop, With S w2 w4 = S4 := ⟨_, rfl⟩
    rw [hS4] at HD4 HZ4
    clear hS4
    go_wp2_with fail
    refine (sync w4 S4 d m [⟨s, f, v, Lib.byteCells l1, 0⟩] ((n1 : Int) + (n2 : Int)) (-1) false s HSL.out HD4.out (by omega) (by omega)).mono ?_
    obtain ⟨e1, e2, e3, e4⟩ := sync_one ⟨s, f, v, Lib.byteCells l1, 0⟩
    simp only [] at e1 e2 e3 e4
    rw [e1, e2, e3, e4]
    clear e1 e2 e3 e4
    rintro e w5 ⟨rfl, ht, hsz, hd5⟩
    have HD5 := Lib.hid hd5
    have HB5 := Lib.hid (HB4.out.trans (ht.below HB4.out.size (fun x hx => (HZ4.out x hx).1)))
    have HZ5 := Lib.hid (show ∀ x, S4 x → W.heap.size ≤ x ∧ x < w5.heap.size from fun x hx => by have := HZ4.out x hx; omega)
    clear ht hd5 hsz
    go_wp2_with fail
    refine (append w5 S4 d m [⟨s, f, v, Lib.byteCells l1, ((Lib.byteCells l1).length : Nat)⟩] ((n1 : Int) + (n2 : Int)) (-1) false s _ (Lib.byteCells l2) HSL.out HD5.out (by omega) (by omega) (by omega) (by omega) ((HS2.out S4 (fun x hx => (HZ5.out x hx).1)).later HB5.out) ?_ ?_).mono ?_
    · rw [HB2'.out, lens_one, HB1'.out]; omega
    · unfold maxLen; simp
    rintro e w6 ⟨L', jj6, err, rfl, ht, hd6, hsays⟩
    obtain ⟨rfl, ⟨f', v', rfl⟩, e2, e3⟩ := app_good HNM.out (by rw [HB2'.out, lens_one, HB1'.out]; omega) hsays
    rw [e2, e3, add_one ⟨s, f, v, Lib.byteCells l1, ((Lib.byteCells l1).length : Nat)⟩ f' v' (Lib.byteCells l2)] at hd6
    have HD6 := Lib.hid hd6
    have HB6 := Lib.hid (HB5.out.trans (ht.below HB5.out.size (fun x hx => (HZ5.out x hx).1)))
    have HZ6 := Lib.hid (Withs HZ5.out HB5.out.size ht.size)
    clear ht hd6 hsays e2 e3
    obtain ⟨S6, hS6⟩ : ∃ S6 : Nat → Prop, With S4 w5 w6 = S6 := ⟨_, rfl⟩
    rw [hS6] at HD6 HZ6
    clear hS6
    rw [byteCells_append] at HD6
    obtain ⟨E, hE⟩ : ∃ E : Ent, (⟨s, f, v', Lib.byteCells (l1 ++ l2), ((Lib.byteCells l1).length : Nat)⟩ : Ent) = E := ⟨_, rfl⟩
    have HE := Lib.hid hE
    rw [show DiskAt w6 S6 d m [⟨s, f, v', Lib.byteCells (l1 ++ l2), ((Lib.byteCells l1).length : Nat)⟩] ((n1 : Int) + (n2 : Int)) (-1) false = DiskAt w6 S6 d m [E] ((n1 : Int) + (n2 : Int)) (-1) false by rw [hE]] at HD6
    have HNE := Lib.hid (show E.name = s by rw [← hE])
    have hbl : E.bs.length = n1 + n2 := by rw [← hE]; show (Lib.byteCells (l1 ++ l2)).length = _; rw [Lib.byteCells_length, List.length_append, HN1.out, HN2.out]
    have hgd : Good [E] := by
      intro x hx
      rw [List.mem_singleton] at hx
      subst hx
      refine ⟨by rw [HNE.out]; exact nameB_len HNM.out, ⟨l1 ++ l2, by rw [← hE]⟩, by rw [hbl]; omega, by rw [← hE]; show (0 : Int) ≤ ((Lib.byteCells l1).length : Nat); omega, ?_⟩
      rw [hbl, ← hE]
      show (((Lib.byteCells l1).length : Nat) : Int) ≤ _
      rw [HB1'.out]
      omega
    have HGD := Lib.hid hgd
    have HBL := Lib.hid hbl
    have HES := Lib.hid (show E.syn = n1 by rw [← hE]; show (((Lib.byteCells l1).length : Nat) : Int) = _; rw [HB1'.out])
    have HEB := Lib.hid (show E.bs = Lib.byteCells (l1 ++ l2) by rw [← hE])
    clear hE hgd hbl
    go_wp2_with fail
    refine (restart w6 S6 d m [E] ((n1 : Int) + (n2 : Int)) (-1) false _ l3 (fun x hx => (HZ6.out x hx).2) HD6.out HGD.out (by simp) ((HS3.out S6 (fun x hx => (HZ6.out x hx).1)).later HB6.out)).mono ?_
    rintro e w7 ⟨rfl, ht, hd7⟩
    have HD7 := Lib.hid hd7
    have HB7 := Lib.hid (HB6.out.trans (ht.below HB6.out.size (fun x hx => (HZ6.out x hx).1)))
    clear ht hd7
    obtain ⟨K, hK⟩ : ∃ K, rstK E (l3.headD 0).toNat = K := ⟨_, rfl⟩
    have hK1 : n1 ≤ K := by
      rw [← hK]
      unfold rstK
      have := HES.out
      have := HBL.out
      split <;> omega
    have hK2 : K ≤ n1 + n2 := by
      rw [← hK]
      have := rstK_le E (l3.headD 0).toNat (by rw [HES.out]; omega) (by rw [HES.out, HBL.out]; omega)
      rw [HBL.out] at this
      exact this
    have hR : rst l3 [E] = [⟨E.name, E.f, rstV E.v K, E.bs.take K, (K : Nat)⟩] := by rw [← hK]; rfl
    rw [hR] at HD7
    clear hR hK
    have hBy : Bytes [⟨E.name, E.f, rstV E.v K, E.bs.take K, (K : Nat)⟩] := by
      intro x hx
      rw [List.mem_singleton] at hx
      subst hx
      exact ⟨(l1 ++ l2).take K, by show E.bs.take K = _; rw [HEB.out, byteCells_take], by rw [List.length_take]; omega⟩
    have HBY := Lib.hid hBy
    clear hBy
    go_wp2_with fail
    refine (read w7 S6 d m [⟨E.name, E.f, rstV E.v K, E.bs.take K, (K : Nat)⟩] ((n1 : Int) + (n2 : Int)) (-1) false s HSL.out HD7.out HBY.out).mono ?_
    have hg : getE [⟨E.name, E.f, rstV E.v K, E.bs.take K, (K : Nat)⟩] false s = (some ⟨E.name, E.f, rstV E.v K, E.bs.take K, (K : Nat)⟩, 0) := by
      have hl := look_one ⟨E.name, E.f, rstV E.v K, E.bs.take K, (K : Nat)⟩ s HNE.out
      simp [getE, hl]
    rw [hg]
    clear hg
    rintro e w8 ⟨v8, rfl, hown, hb8⟩
    have hbt : bytesOf (some (⟨E.name, E.f, rstV E.v K, E.bs.take K, (K : Nat)⟩ : Ent)) = Lib.byteCells ((l1 ++ l2).take K) := by show E.bs.take K = _; rw [HEB.out, byteCells_take]
    have hlt : ((l1 ++ l2).take K).length = K := by rw [List.length_take, List.length_append, HN1.out, HN2.out]; omega
    simp only [] at hown
    rw [hbt, Lib.byteCells_length, hlt] at hown
    have hcv : ∀ n, (convert 23 9 v8).run Try.prog (w8.drewN n) = .ok (.string ⟨((l1 ++ l2).take K).toArray⟩) (w8.drewN n) := fun n => str_of_row (w := w8.drewN n) hown hlt.symm
    obtain ⟨a8, c8, rfl⟩ : ∃ a c, v8 = .slice a K c := by
      rcases hown.2 with ⟨rfl, h0⟩ | ⟨g, cap, cur, rfl, _⟩
      · exact ⟨none, 0, by rw [← h0]⟩
      · exact ⟨_, _, rfl⟩
    have HB8 := Lib.hid (HB7.out.trans (hb8.mono HB7.out.size))
    have HCV := Lib.hid hcv
    clear hown hb8 hcv hlt hbt
    go_wp2_with fail
    refine (rname s w8 HSL.out).mono ?_
    rintro e w9 ⟨rfl, rfl⟩
    rw [HNM.out]
    have hx1 := str_of_src ((HS1.out S (fun x hx => (HZ3.out x hx).1)).later HB8.out)
    have hx2 := str_of_src ((HS2.out S (fun x hx => (HZ3.out x hx).1)).later HB8.out)
    have hx3 := HCV.out
    have hap := str_app l1 l2
    have htk := fun w => str_take w (l1 ++ l2) K (by rw [List.length_append, HN1.out, HN2.out]; omega)
    obtain ⟨A1, hA1⟩ : ∃ A, (⟨l1.toArray⟩ : ByteArray) = A := ⟨_, rfl⟩
    obtain ⟨A2, hA2⟩ : ∃ A, (⟨l2.toArray⟩ : ByteArray) = A := ⟨_, rfl⟩
    obtain ⟨T, hT⟩ : ∃ A, (⟨(l1 ++ l2).toArray⟩ : ByteArray) = A := ⟨_, rfl⟩
    obtain ⟨U, hU⟩ : ∃ A, (⟨((l1 ++ l2).take K).toArray⟩ : ByteArray) = A := ⟨_, rfl⟩
    have hTs : T.size = n1 + n2 := by rw [← hT]; simp [ByteArray.size, HN1.out, HN2.out]
    have hA1s : A1.size = n1 := by rw [← hA1]; simp [ByteArray.size, HN1.out]
    have hA2s : A2.size = n2 := by rw [← hA2]; simp [ByteArray.size, HN2.out]
    rw [hA1] at hx1 hap
    rw [hA2] at hx2 hap
    rw [hT] at hap htk
    rw [hU] at hx3 htk
    clear hA1 hA2 hT hU
    go_wp2_with fail
    have hd1 : decide ((n1 : Int) ≤ (K : Int)) = true := by simp; omega
    have hd2 : decide ((K : Int) ≤ (n1 : Int) + (n2 : Int)) = true := by simp; omega
    go_quiet (fail)
    go_wp2_with fail
    go_ret
    exact ⟨rfl, ⟨HB8.out.os, HB8.out.tape, HB8.out.output, HB8.out.size, HB8.out.block⟩⟩
end Go.Proofs.Ytjkgcpbgacdgaaa
