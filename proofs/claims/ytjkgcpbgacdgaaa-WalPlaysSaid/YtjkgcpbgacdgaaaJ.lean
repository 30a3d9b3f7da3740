/- The walk of DiskFull. No condition. -/
import Derived.Test.YtjkgcpbgacdgaaaI
import Derived.Lib.SmallJoins
import Derived.Deep.Slices
import Derived.Deep.OwnRows
namespace Go.Proofs.Ytjkgcpbgacdgaaa
open Go.RowKit Go.Sort Go.Deep Go.WideShapes Go.ChangeShapes Go.Joins
def BytesIn (W : World) (a : Option Addr) (n : Nat) (f : Nat → Nat) : Prop := ∀ i, i < n → f i < 256 ∧ ∃ b off, a = some ⟨b, off, none⟩ ∧ b < W.heap.size ∧ W.cell? ⟨b, off + i, none⟩ = some (.int .u8 (f i : Int))
set_option maxRecDepth 100000 in
theorem bytes_open {H : Type} {enc : TypeId × Value → H} {W : World} {base : Nat} {v : Value} {d : DataW H} {p : List MemPlace}
    (h : DataW.Trod enc Try.prog W 0 (fun _ => true) true 23 v d p) (o : Value.okWide Try.prog W .any base 23 v) :
    ∃ a len cap f, v = .slice a len cap ∧ len < 2 ^ 63 ∧ len ≤ cap ∧ BytesIn W a len f := by
  obtain ⟨a, len, cap, rfl⟩ := okWide_slice Try.underlying23 o
  obtain ⟨fuel, hf⟩ := h
  rcases open_ints Try.underlying23 Try.underlying5 (by kernel_rfl) hf with ⟨hcs, _⟩ | ⟨b, l, c, zs, hcs, _, hl, hm, hz, hd, hcell, hwz⟩
  · simp [Value.cells] at hcs
    obtain ⟨rfl, rfl, rfl⟩ := hcs
    exact ⟨none, 0, 0, fun _ => 0, rfl, by omega, Nat.le_refl _, fun i hi => absurd hi (by omega)⟩
  · simp [Value.cells] at hcs
    obtain ⟨rfl, rfl, rfl⟩ := hcs
    simp only [if_true] at hz
    refine ⟨_, len, cap, fun i => (zs.getD i 0).toNat, rfl, by unfold maxLen at hm; omega, hl, ?_⟩
    intro i hi
    have h1 := hcell i (by omega)
    have hsp : b.spot = none := World.cell?_spot (by have := hcell 0 (by omega); simpa [Addr.add] using this)
    obtain ⟨bb, off, spot⟩ := b
    simp only at hsp
    subst hsp
    have hw := hwz (zs.getD i 0) (by simp [List.getD, show i < zs.length by omega])
    have hw' : 0 ≤ zs.getD i 0 ∧ zs.getD i 0 ≤ 255 := by simpa [Lit.wf, IntKind.min, IntKind.max, IntKind.signed, IntKind.bits] using hw
    refine ⟨by show (zs.getD i 0).toNat < 256; omega, bb, off, rfl, ?_, ?_⟩
    · have := World.block_lt_of_cell? W _ h1; unfold Addr.add at this; split at this <;> exact this
    · show W.cell? _ = some (.int .u8 (((zs.getD i 0).toNat : Nat) : Int))
      rw [show (((zs.getD i 0).toNat : Nat) : Int) = zs.getD i 0 by omega, ← h1]; congr 1; unfold Addr.add; split <;> simp_all
theorem cut_one (e : Ent) (hen : e.name = nmA) (t : Nat) (ht : t ≤ e.bs.length) : cutE [e] (-1) false nmA (t : Int) = 0 ∧ cutF [e] (-1) false nmA (t : Int) = -1 ∧ cutD [e] (-1) false nmA (t : Int) = false ∧ ∃ v sy, cutL [e] (-1) false nmA (t : Int) = [⟨e.name, e.f, v, e.bs.take t, sy⟩] := by
  have hlk := look_one e nmA hen
  have hg : getE [e] false nmA = (some e, 0) := by simp [getE, hlk]
  have hio : isOut (getE [e] false nmA).1 (t : Int) = false := by rw [hg]; simp [isOut]; omega
  have hce : cutE [e] (-1) false nmA (t : Int) = 0 := by unfold cutE; rw [hio]; simp [chE, hg, opE]
  refine ⟨hce, by unfold cutF; rw [hio]; simp [chF, hg, opF]; decide, by unfold cutD; rw [hio]; simp [chD, hg, opD], cutV e.v t, min e.syn t, ?_⟩
  simp only [cutL, hce, if_true, hlk, Int.toNat_natCast]
  simp [setF, hen]
def InFull (W : World) (d m n : Nat) (room : Int) (u i : Value) (wr : World) : Prop :=
  ∃ (k : Nat) (S : Nat → Prop) (L : List Ent), k ≤ n ∧ i = .int .i64 k ∧ u = .int .i64 (lens L) ∧ DiskAt wr S d m L room (-1) false ∧ (∀ x, S x → W.heap.size ≤ x ∧ x < wr.heap.size) ∧ One L ∧ (lens L : Int) ≤ room ∧ Below W.heap.size W wr
set_option maxRecDepth 100000 in
set_option maxHeartbeats 1000000 in
theorem diskFull_walk (H : Type) (enc : TypeId × Value → H) (W : World) (base : Nat) (v0 v1 : Value) (d0 d1 : DataW H) (p0 p1 : List MemPlace) (h0 : DataW.Trod enc Try.prog W 0 (fun _ => true) true 22 v0 d0 p0) (o0 : Value.okWide Try.prog W .any base 22 v0) (h1 : DataW.Trod enc Try.prog W 0 (fun _ => true) true 23 v1 d1 p1) (o1 : Value.okWide Try.prog W .any base 23 v1) :
    Calls Try.prog 3 #[v0, v1] W fun e w' => e = .returned (.bool true) ∧ Below W.heap.size W w' := by
  obtain ⟨r, rfl, rfl, rfl, wr0⟩ := open_int Try.underlying22 o0 h0
  obtain ⟨a, n, cap, f, rfl, hn, _, hby⟩ := bytes_open h1 o1
  have hr : 0 ≤ r ∧ r ≤ 65535 := by simpa [Lit.wf, IntKind.min, IntKind.max, IntKind.signed, IntKind.bits] using wr0
  obtain ⟨hr0, hr1⟩ := hr
  have hwr : IntKind.i64.wrap r = r := by simp only [IntKind.wrap, IntKind.bits, IntKind.signed]; simp; omega
  have HBY := Lib.hid hby
  clear h0 o0 h1 o1 hby wr0
  go_enter Try.func3, Try.ntmps3
  go_wp2_with fail
  refine (awake9 _).mono ?_
  rintro e w1 ⟨rfl, hb⟩
  have HB1 := Lib.hid hb
  clear hb
  go_wp2_with fail
  refine (new r _ (by omega)).mono ?_
  rintro e w2 ⟨rfl, hd2, hb2, hs2⟩
  have hmx : max r 0 = r := by omega
  rw [hmx] at hd2
  have HD2 := Lib.hid hd2
  have HB2 := Lib.hid (HB1.out.trans (hb2.mono HB1.out.size))
  have HS2 := Lib.hid hs2
  clear hd2 hb2 hs2 hmx
  go_wp2_with fail
  go_loopw [6, 18] (fun u i wr => InFull W (w1.heap.size + 1) w1.heap.size n r u i wr) (fun _ i _ => n - (intOf i).toNat)
  case atStart => exact ⟨0, _, [], Nat.zero_le _, rfl, rfl, HD2.out, fun x hx => by have := HS2.out; have := HB1.out.size; rcases hx with rfl | rfl <;> omega, .inl rfl, by simp [lens]; omega, HB2.out⟩
  case round =>
    obtain ⟨k, S, L, hk, rfl, rfl, hd, hS, hone, hle, hb⟩ := hrel
    have HD := Lib.hid hd
    have HSS := Lib.hid hS
    have HONE := Lib.hid hone
    have HB := Lib.hid hb
    clear hd hS hone hb
    by_cases hlt : k < n
    · obtain ⟨hfk, b, off, ha, hbw, hck⟩ := HBY.out k hlt
      subst ha
      have hd1 : wr.cell? ⟨b, off + k, none⟩ = some (.int .u8 (f k)) := by rw [← hck]; exact HB.out.cell hbw
      have HCK := Lib.hid hck
      clear hck
      have hwf : IntKind.i64.wrap (f k : Int) = f k := by simp only [IntKind.wrap, IntKind.bits, IntKind.signed]; simp; omega
      --REST
      have hmc : madeCells #[.int .u8 0] (f k) = (List.replicate (f k) (.int .u8 0)).toArray := Array.toList_inj.1 (by rw [toList_madeCells_one])
      --REST
      have hmc : madeCells #[.int .u8 0] (f k) = (List.replicate (f k) (.int .u8 0)).toArray := Array.toList_inj.1 (by rw [toList_madeCells_one])
      --REST
      have hmc : madeCells #[.int .u8 0] (f k) = (List.replicate (f k) (.int .u8 0)).toArray := Array.toList_inj.1 (by rw [toList_madeCells_one])
      --REST
      have hmc : madeCells #[.int .u8 0] (f k) = (List.replicate (f k) (.int .u8 0)).toArray := Array.toList_inj.1 (by rw [toList_madeCells_one])
      --REST
      have hmc : madeCells #[.int .u8 0] (f k) = (List.replicate (f k) (.int .u8 0)).toArray := Array.toList_inj.1 (by rw [toList_madeCells_one])
      --REST
      have hmc : madeCells #[.int .u8 0] (f k) = (List.replicate (f k) (.int .u8 0)).toArray := Array.toList_inj.1 (by rw [toList_madeCells_one])
      have hmk := fun w => run_make_row' (P := Try.prog) 23 5 (.int .u8 0) 1 Try.underlying23 zero5 rfl .i64 .i64 (f k) (by omega) (by omega) w
      rw [hmc] at hmk
      clear hmc
      go_wp2_with fail
      have hsrc := zero4 wr S (fun x hx => (HSS.out x hx).2) (List.replicate (f k) (.int .u8 0)) (by simp [Value.oneCell']) (0, 0)
      simp only [List.length_replicate] at hsrc
      refine (append _ S _ _ L r (-1) false nmA _ (List.replicate (f k) (.int .u8 0)) (by decide) (HD.out.later ((Below.refl _ _).alloc (Nat.le_refl _) _)) (by omega) (by omega) (by omega) (by omega) hsrc (by simp; omega) (by have := HONE.out.len; unfold maxLen; omega)).mono ?_
      rintro e w3 ⟨L', j, err, rfl, ht, hd3, hsays⟩
      obtain ⟨e, rfl, hen, hel, hj, he⟩ := app_one HONE.out hsays
      rw [List.length_replicate] at hj he
      have hd3' : DiskAt w3 (With S (wr.alloc (.cells (List.replicate (f k) (.int .u8 0)).toArray 5)) w3) (w1.heap.size + 1) w1.heap.size [e] r (-1) false := hd3
      have HS3 := Lib.hid (show ∀ x, With S (wr.alloc (.cells (List.replicate (f k) (.int .u8 0)).toArray 5)) w3 x → W.heap.size ≤ x ∧ x < w3.heap.size from fun x hx => by
        have h1 := ht.size
        have h2 := HB.out.size
        simp at h1
        rcases hx with hx | hx
        · have := HSS.out x hx; omega
        · have h3 := hx.1; simp at h3; exact ⟨by omega, hx.2⟩)
      have HB3 := Lib.hid (show Below W.heap.size W w3 from HB.out.trans ((((Below.refl wr.heap.size wr).alloc (Nat.le_refl _) _).mono HB.out.size).trans (ht.below (by have := HB.out.size; simp; omega) (fun x hx => (HSS.out x hx).1))))
      have HD3 := Lib.hid hd3'
      have hd1b : w3.cell? ⟨b, off + k, none⟩ = some (.int .u8 (f k)) := (HB3.out.cell hbw).trans HCK.out
      clear hd1
      have HEN := Lib.hid hen
      have HEL := Lib.hid hel
      have HLE := Lib.hid (show lens [e] = lens L + j by rw [lens_one, hel])
      clear ht hd3 hd3' hsays hen hel hsrc
      by_cases hroom : (f k : Int) ≤ r - lens L
      · have hjf : j = f k := by rw [hj]; unfold appN; omega
        have hef : err = 0 := by rw [he, if_neg (by omega)]
        subst hef
        have hq0 : ((j : Int) != (f k : Int)) = false := by simp; omega
        have hq1 : ¬ r - (lens L : Int) < (f k : Int) := by omega
        clear hj he
        cases hv : ((k : Int) % 5 == 4) with
        | false =>
          go_wp2_with fail
          go_roundw
          case rel => exact ⟨k + 1, _, _, hlt, by go_num, by rw [HLE.out]; congr 1; omega, HD3.out, HS3.out, .inr ⟨e, rfl, HEN.out⟩, by rw [HLE.out]; omega, HB3.out⟩
          case measure => simp [intOf]; omega
        | true =>
          go_wp2_with fail
          obtain ⟨q, hq⟩ : ∃ q, q = (lens L + j) / 2 := ⟨_, rfl⟩
          have hz1 : ((lens L : Int) + (f k : Int)) / 2 = (q : Int) := by omega
          rw [hz1]
          have HQ := Lib.hid hq
          clear hz1 hq
          have hel := HEL.out
          obtain ⟨hce, hcf, hcd, v', sy, hcl⟩ := cut_one e HEN.out q (by have := HQ.out; omega)
          refine (cut w3 _ _ _ [e] r (-1) false nmA _ (by decide) HD3.out (by omega) (by omega)).mono ?_
          rw [hce, hcf, hcd, hcl]
          rintro e' w4 ⟨rfl, ht4, hs4, hd4⟩
          have HD4 := Lib.hid hd4
          have HB4 := Lib.hid (HB3.out.trans (ht4.below HB3.out.size (fun x hx => (HS3.out x hx).1)))
          have HS4 := Lib.hid (show ∀ x, With S (wr.alloc (.cells (List.replicate (f k) (.int .u8 0)).toArray 5)) w3 x → W.heap.size ≤ x ∧ x < w4.heap.size from fun x hx => by rw [hs4]; exact HS3.out x hx)
          have HLE4 := Lib.hid (show lens [(⟨e.name, e.f, v', e.bs.take q, sy⟩ : Ent)] = q by rw [lens_one, List.length_take, hel]; have := HQ.out; omega)
          clear hd4 ht4 hs4 hce hcf hcd hcl hel
          go_wp2_with fail
          go_roundw
          case rel => exact ⟨k + 1, _, _, hlt, by go_num, by rw [HLE4.out], HD4.out, HS4.out, .inr ⟨_, rfl, HEN.out⟩, by rw [HLE4.out]; have := HQ.out; omega, HB4.out⟩
          case measure => simp [intOf]; omega
      · have hjz : (j : Int) = r - lens L := by rw [hj]; unfold appN; omega
        have hef : err = 7 := by rw [he, if_pos (by omega)]
        subst hef
        have hq0 : ((j : Int) != r - (lens L : Int)) = false := by simp; omega
        have hq1 : r - (lens L : Int) < (f k : Int) := by omega
        have hq2 : (r - (lens L : Int) == (f k : Int)) = false := by simp; omega
        clear hj he
        cases hv : ((k : Int) % 5 == 4) with
        | false =>
          go_wp2_with fail
          go_roundw
          case rel => exact ⟨k + 1, _, _, hlt, by go_num, by rw [HLE.out]; congr 1; omega, HD3.out, HS3.out, .inr ⟨e, rfl, HEN.out⟩, by rw [HLE.out]; omega, HB3.out⟩
          case measure => simp [intOf]; omega
        | true =>
          go_wp2_with fail
          obtain ⟨q, hq⟩ : ∃ q, q = (lens L + j) / 2 := ⟨_, rfl⟩
          have hz1 : ((lens L : Int) + (r - (lens L : Int))) / 2 = (q : Int) := by omega
          rw [hz1]
          have HQ := Lib.hid hq
          clear hz1 hq
          have hel := HEL.out
          obtain ⟨hce, hcf, hcd, v', sy, hcl⟩ := cut_one e HEN.out q (by have := HQ.out; omega)
          refine (cut w3 _ _ _ [e] r (-1) false nmA _ (by decide) HD3.out (by omega) (by omega)).mono ?_
          rw [hce, hcf, hcd, hcl]
          rintro e' w4 ⟨rfl, ht4, hs4, hd4⟩
          have HD4 := Lib.hid hd4
          have HB4 := Lib.hid (HB3.out.trans (ht4.below HB3.out.size (fun x hx => (HS3.out x hx).1)))
          have HS4 := Lib.hid (show ∀ x, With S (wr.alloc (.cells (List.replicate (f k) (.int .u8 0)).toArray 5)) w3 x → W.heap.size ≤ x ∧ x < w4.heap.size from fun x hx => by rw [hs4]; exact HS3.out x hx)
          have HLE4 := Lib.hid (show lens [(⟨e.name, e.f, v', e.bs.take q, sy⟩ : Ent)] = q by rw [lens_one, List.length_take, hel]; have := HQ.out; omega)
          clear hd4 ht4 hs4 hce hcf hcd hcl hel
          go_wp2_with fail
          go_roundw
          case rel => exact ⟨k + 1, _, _, hlt, by go_num, by rw [HLE4.out], HD4.out, HS4.out, .inr ⟨_, rfl, HEN.out⟩, by rw [HLE4.out]; have := HQ.out; omega, HB4.out⟩
          case measure => simp [intOf]; omega
    · have hke : k = n := by omega
      go_wp2_with fail
      refine (used wr S _ _ L r (-1) false HD.out (by omega)).mono ?_
      rintro e w3 ⟨rfl, hb3⟩
      have HB3 := Lib.hid (HB.out.trans (hb3.mono HB.out.size))
      clear hb3
      go_wp2_with fail
      go_ret
      exact ⟨by simp, HB3.out⟩
end Go.Proofs.Ytjkgcpbgacdgaaa
