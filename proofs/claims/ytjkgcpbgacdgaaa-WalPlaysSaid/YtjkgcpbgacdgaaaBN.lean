/- The walk of WalRoom. No condition. -/
import Derived.Test.YtjkgcpbgacdgaaaBM
namespace Go.Proofs.Ytjkgcpbgacdgaaa
open Go.RowKit Go.Sort Go.Deep Go.WideShapes Go.ChangeShapes
def tl (E : Nat → EntX) : Nat → Nat
  | 0 => 0
  | k + 1 => tl E k + ((E k).l.length + 16)
theorem tl_mono (E : Nat → EntX) {k n : Nat} (h : k ≤ n) : tl E k ≤ tl E n := by
  induction n with
  | zero => have : k = 0 := by omega
            subst this; exact Nat.le_refl _
  | succ n ih =>
    by_cases hk : k = n + 1
    · subst hk; exact Nat.le_refl _
    · have := ih (by omega)
      simp only [tl]; omega
theorem tl_bound (E : Nat → EntX) : ∀ k, (∀ j, j < k → (E j).l.length ≤ 4000) → tl E k ≤ 4016 * k
  | 0, _ => Nat.zero_le _
  | k + 1, h => by
    have h1 := tl_bound E k fun j hj => h j (by omega)
    have h2 := h k (by omega)
    simp only [tl]; omega
def cost (X : List (List Value)) : Nat := (X.map fun x => x.length + 4).sum
theorem cost_drop : ∀ (X : List (List Value)) (k : Nat), cost (X.drop k) ≤ cost X
  | [], k => by simp
  | x :: X, 0 => by simp
  | x :: X, k + 1 => by
    have := cost_drop X k
    simp only [List.drop_succ_cons, cost, List.map_cons, List.sum_cons] at *; omega
theorem cost_snoc (X : List (List Value)) (b : List Value) : cost (X ++ [b]) = cost X + (b.length + 4) := by simp [cost]
theorem cost_len (X : List (List Value)) : X.length ≤ cost X := by
  induction X with
  | nil => simp
  | cons x X ih => simp only [cost, List.map_cons, List.sum_cons, List.length_cons] at *; omega
theorem contL_cost (n : Int) (X : List (List Value)) : (contL n (X.map fun x => (.slice none 0 0, x))).length = 12 + cost X := by
  have h : ∀ X : List (List Value), (List.flatMap (fun x : Value × List Value => frameL x.2) (X.map fun x => (Value.slice none 0 0, x))).length = cost X := by
    intro X
    induction X with
    | nil => rfl
    | cons x X ih =>
      rw [List.map_cons, List.flatMap_cons, List.length_append, ih]
      simp [cost, frameL, numL_len]; omega
  unfold contL
  rw [List.length_append, h]
  simp [markL, numL_len]
theorem bc_len (l : List UInt8) : (Lib.byteCells l).length = l.length := Lib.byteCells_length l
def InNeed (W : World) (E : Nat → EntX) (n : Nat) (u i : Value) (wr : World) : Prop :=
  ∃ k : Nat, k ≤ n ∧ i = .int .i64 k ∧ u = .int .i64 (16 + tl E k : Nat) ∧ (∀ j, j < k → (E j).l.length ≤ 4000) ∧ Below W.heap.size W wr
def InRoom (W : World) (E : Nat → EntX) (d m n l : Nat) (room : Int) (i : Value) (wr : World) : Prop :=
  ∃ (k : Nat) (S T : Nat → Prop) (L : List Ent) (first : Int) (v : Value) (X : List (Value × List Value)) (z : Nat), k ≤ n ∧ i = .int .i64 k ∧ Wal (fun _ => False) W wr S T d m L room (-1) false l first v X z false ∧ OneWal L z ∧ z ≤ 16 + tl E k ∧ cost (X.map Prod.snd) ≤ tl E k ∧ 0 ≤ first ∧ first + X.length ≤ k
set_option maxHeartbeats 4000000 in
set_option maxRecDepth 100000 in
theorem walRoom_walk (H : Type) (enc : TypeId × Value → H) (W : World) (base : Nat) (v0 v1 : Value) (d0 d1 : DataW H) (p0 p1 : List MemPlace) (h0 : DataW.Trod enc Try.prog W 0 (fun _ => true) true 33 v0 d0 p0) (o0 : Value.okWide Try.prog W .any base 33 v0) (h1 : DataW.Trod enc Try.prog W 0 (fun _ => true) true 23 v1 d1 p1) (o1 : Value.okWide Try.prog W .any base 23 v1) :
    Calls Try.prog 4 #[v0, v1] W fun e w' => e = .returned (.bool true) ∧ Below W.heap.size W w' := by
  obtain ⟨a, n, cap, E, rfl, _, hn, hE⟩ := entries_open h0 o0
  obtain ⟨a1, n1, cap1, f, rfl, hn1, _, hby⟩ := bytes_open h1 o1
  have HE := Lib.hid hE
  have HBY := Lib.hid hby
  clear h0 o0 h1 o1 hE hby
  go_enter Try.func4, Try.ntmps4
  go_wp2_with fail
  refine (awake16 _).mono ?_
  rintro e w1 ⟨rfl, hb1⟩
  have HB1 := Lib.hid hb1
  clear hb1
  by_cases h40' : (40 : Int) < (n : Int)
  · --
    go_wp2_with fail
    refine (awake16 _).mono ?_
    rintro e w2 ⟨rfl, hb2⟩
    have HB2 := Lib.hid (HB1.out.trans (hb2.mono HB1.out.size))
    clear hb2
    go_wp2_with fail
    go_ret
    exact ⟨rfl, HB2.out⟩
  go_wp2_with fail
  go_loopw [5, 23] (fun u i wr => InNeed W E n u i wr) (fun _ i _ => n - (intOf i).toNat)
  case atStart => exact ⟨0, Nat.zero_le _, rfl, rfl, fun j hj => absurd hj (by omega), HB1.out⟩
  case round =>
    obtain ⟨k, hk, rfl, rfl, hs, hb⟩ := hrel
    have HS := Lib.hid hs
    have HB := Lib.hid hb
    have hbd := tl_bound E k hs
    obtain ⟨N, hN⟩ : ∃ N, tl E k = N := ⟨_, rfl⟩
    rw [hN] at hbd ⊢
    have HN := Lib.hid hN
    clear hs hb hN
    by_cases hlt : k < n
    · obtain ⟨b, off, ha, hbw, hck, -, -, -⟩ := HE.out k hlt
      subst ha
      have hc := (HB.out.cell (p := ⟨b, off + k, none⟩) hbw).trans hck
      by_cases hl : (E k).l.length ≤ 4000
      · go_wp2_with fail
        go_roundw
        case rel => exact ⟨k + 1, hlt, by go_num, by simp only [tl, HN.out]; go_num, fun j hj => by
          by_cases hj' : j = k
          · subst hj'; exact hl
          · exact HS.out j (by omega), HB.out⟩
        case measure => simp [intOf]; omega
      · have hl' : (4000 : Int) < ((E k).l.length : Int) := by omega
        go_wp2_with fail
        go_ret
        exact ⟨rfl, HB.out⟩
    · obtain rfl : n = k := by omega
      have hns : ∀ j, j < n → (E j).l.length ≤ 4000 := HS.out
      have HNS := Lib.hid hns
      have HNZ := Lib.hid hbd
      have hN2 : N ≤ 200000 := by omega
      clear hns hbd
      go_wp2_with fail
      refine (new _ _ (by omega)).mono ?_
      rintro e w2 ⟨rfl, hd2, hb2, hs2⟩
      obtain ⟨room, hroom⟩ : ∃ room : Int, 2 * (16 + (N : Int)) + 100 = room := ⟨_, rfl⟩
      have hmx : max (2 * (16 + (N : Int)) + 100) 0 = room := by omega
      rw [hmx] at hd2
      have HRM := Lib.hid hroom
      have HD2 := Lib.hid hd2
      have HB2 := Lib.hid (HB.out.trans (hb2.mono HB.out.size))
      have HS2 := Lib.hid hs2
      clear hd2 hb2 hs2 hmx hroom
      go_wp2_with fail
      refine (openNew W w2 _ _ _ _ HD2.out (fun x hx => by have := HS2.out; have := HB.out.size; rcases hx with rfl | rfl <;> omega) HB2.out).mono ?_
      rintro e w3 ⟨S, T, l, rfl, hW⟩
      have HW := Lib.hid hW
      clear hW
      go_wp2_with fail
      go_loopw [54] (fun i wr' => InRoom W E (wr.heap.size + 1) wr.heap.size n l room i wr') (fun i _ => n - (intOf i).toNat)
      case atStart => exact ⟨0, S, T, [], 0, _, [], 0, Nat.zero_le _, rfl, HW.out, .inl ⟨rfl, rfl⟩, Nat.zero_le _, Nat.zero_le _, Int.le_refl _, by simp⟩
      case round =>
        obtain ⟨k, S, T, L, first, v, X, z, hk, rfl, hW, hone, hz, hcost, hf0, hfX⟩ := hrel
        obtain ⟨va, vc, rfl⟩ := row_form hW.log.row
        have HW := Lib.hid hW
        have HO := Lib.hid hone
        have HZ := Lib.hid hz
        have HC := Lib.hid hcost
        have HF := Lib.hid (And.intro hf0 hfX)
        clear hW hone hz hcost hf0 hfX
        by_cases hlt : k < n
        · have hmn := tl_mono E (show k + 1 ≤ n from hlt)
          rw [HN.out] at hmn
          have htl : tl E (k + 1) = tl E k + ((E k).l.length + 16) := rfl
          have h4 := HNS.out k hlt
          obtain ⟨b, off, ha, hbw, hck, hsrc, h1c, hbk⟩ := HE.out k hlt
          subst ha
          obtain ⟨q, hq⟩ : ∃ q, (E k).l.length = q := ⟨_, rfl⟩
          have hbb := bc_len (E k).l
          rw [hq] at htl h4 hck hsrc hbk hbb
          have hc := (HW.out.below.low.cell (p := ⟨b, off + k, none⟩) hbw).trans hck
          have HBB := Lib.hid (And.intro hq hbb)
          have HCK := Lib.hid (And.intro hbw hck)
          have HMN := Lib.hid (And.intro hmn htl)
          have HSRC := Lib.hid (hsrc.later HW.out.below.low)
          have H1C := Lib.hid h1c
          have HBK := Lib.hid hbk
          have HRL := Lib.hid (HRM.out)
          clear hck hsrc h1c hbk hmn htl hq hbb
          go_wp2_with fail
          have hHO := HO.out.lens
          have hcl := cost_len (X.map Prod.snd)
          rw [List.length_map] at hcl
          have hzz := HZ.out
          have hcc := HC.out
          have hff := HF.out
          have hmm := HMN.out
          have hrr := HRM.out
          have hbb := HBB.out.2
          refine (append18 (fun _ => False) W wr S T _ _ L _ _ _ l first _ X _ false _ (Lib.byteCells (E k).l) HW.out (by omega) (by omega) (by omega) (by omega) HSRC.out H1C.out (fun hne g hg => by
            have k1 := HBK.out hne g hg
            refine ⟨fun e => ?_, fun e => ?_, ?_⟩
            · have := (HW.out.low g (.inl e)).1; rcases this with h | h; exact h; omega
            · have := (HW.out.low l (.inr HW.out.log.here)).1; rcases this with h | h; exact h; omega
            · have := HW.out.below.size; omega) (by omega) (by omega) (by rcases HO.out with ⟨h, _⟩ | ⟨e, h, _⟩ <;> rw [h] <;> simp [maxLen]) (by omega) (by omega)).mono ?_
          rintro e w4 ⟨S', T', L', fuse', down', v', X', size', over', er, rfl, hW4, hsays⟩
          have hcases : (er = 1 ∧ q = 0 ∨ er = 0 ∧ 0 < q) ∧ fuse' = -1 ∧ down' = false ∧ over' = false ∧ ∃ z' : Nat, size' = z' ∧ OneWal L' z' ∧ z' ≤ 16 + tl E (k + 1) ∧ cost (X'.map Prod.snd) ≤ tl E (k + 1) ∧ X'.length ≤ X.length + 1 := by
            rcases append_ok HO.out rfl (by omega) hsays with ⟨h1, rfl, rfl, rfl, rfl, hX, rfl, rfl⟩ | ⟨⟨h0, h1⟩, rfl, rfl, rfl, hX, rfl, z', hz, rfl, hz1, hz2⟩
            · have := congrArg List.length hX
              simp only [List.length_map] at this
              exact ⟨.inl ⟨rfl, by omega⟩, rfl, rfl, rfl, z, rfl, HO.out, by omega, by rw [hX]; omega, by omega⟩
            · have := congrArg List.length hX
              simp only [List.length_map, List.length_append, List.length_cons, List.length_nil] at this
              exact ⟨.inr ⟨rfl, by omega⟩, rfl, rfl, rfl, z', rfl, hz, by omega, by rw [hX, cost_snoc]; omega, by omega⟩
          obtain ⟨hcs, rfl, rfl, rfl, z', rfl, hO4, hz4, hc4, hl4⟩ := hcases
          obtain ⟨va', vc', rfl⟩ := row_form hW4.log.row
          have hd1 := (hW4.below.low.cell (p := ⟨b, off + k, none⟩) HCK.out.1).trans HCK.out.2
          have HW4 := Lib.hid hW4
          have HO4 := Lib.hid hO4
          have HZ4 := Lib.hid (And.intro hz4 (And.intro hc4 hl4))
          have HLN := Lib.hid (show (X'.length : Int) ≤ k + 1 ∧ 0 ≤ first ∧ first + X'.length ≤ k + 1 by omega)
          clear hW4 hsays hO4 hz4 hc4 hl4 hc hHO hcl hzz hcc hff hmm hrr hbb
          rcases hcs with ⟨rfl, h00⟩ | ⟨rfl, h00⟩
          · have h01 : decide (0 < q) = false := decide_eq_false (by omega)
            clear h00
            by_cases hk1 : k < n1
            · have hk1' : (k : Int) < (n1 : Int) := by omega
              go_wp2_with fail
              obtain ⟨hfk, b1, off1, ha1, hbw1, hck1⟩ := HBY.out k hk1
              subst ha1
              have hd2 := (HW4.out.below.low.cell (p := ⟨b1, off1 + k, none⟩) hbw1).trans hck1
              have hwf : IntKind.i64.wrap (f k : Int) = f k := by simp only [IntKind.wrap, IntKind.bits, IntKind.signed]; simp; omega
              obtain ⟨M, hM⟩ : ∃ M, X'.length = M := ⟨_, rfl⟩
              have hLN := HLN.out
              rw [hM] at hLN
              have c19 := fun n => Calls.quiet_of_same (w := w4) (n := n) (v := .int .i64 first) ((first19 (w4.drewN n) l _ first _ _ false HW4.out.log.blk).mono fun _ _ h => ⟨h.1, h.2.symm⟩)
              have c20 := fun n => Calls.quiet_of (w := w4) (n := n) (v := .int .i64 (first + (M : Int))) ((next20 (w4.drewN n) l _ first _ va' M vc' false (hM ▸ HW4.out.log.blk) (by omega) (by omega)).mono fun _ _ h => ⟨h.1, h.2⟩)
              have HM := Lib.hid hM
              clear hM hck1
              go_quiet (first | (go_at_call 19; exact c19 _) | (go_at_call 20; exact c20 _))
              clear c19 c20
              go_wp2_with fail
              obtain ⟨t, ht⟩ : ∃ t : Nat, (f k : Int) % (first + (M : Int) - first + 1) = t := ⟨((f k : Int) % (first + (M : Int) - first + 1)).toNat, by
                have := Int.emod_nonneg (f k : Int) (show first + (M : Int) - first + 1 ≠ 0 by omega)
                omega⟩
              have htM : t ≤ M := by
                have := Int.emod_lt_of_pos (f k : Int) (show 0 < first + (M : Int) - first + 1 by omega)
                omega
              have hzz : wrap64 (first + (f k : Int) % (first + (M : Int) - first + 1)) = first + t := by
                rw [ht]
                unfold wrap64
                omega
              rw [hzz]
              have hX4 : (X'.map Prod.snd).length = M := by rw [List.length_map]; exact HM.out
              have hcl := cost_len (X'.map Prod.snd)
              rw [hX4] at hcl
              have hHO := HO4.out.lens
              have hmm := HMN.out
              have hrr := HRM.out
              have hcc := HZ4.out
              have hct : (contL (first + (t : Int)) X').length = 12 + cost (X'.map Prod.snd) := by rw [contL_snd, contL_cost]
              refine (trim21 (fun _ => False) W _ S' T' _ _ L' _ _ _ l first _ X' _ false _ (HW4.out.later (below_dN w4 nq)) (by omega) (by omega) (by omega) (by omega) (by omega) (by omega) (by rcases HO4.out with ⟨h, _⟩ | ⟨e, h, _⟩ <;> rw [h] <;> simp [maxLen]) (by rw [HM.out]; omega) (by omega)).mono ?_
              rintro e w5 ⟨S5, T5, L5, fuse5, down5, first5, v5, X5, size5, over5, er5, rfl, hW5, hsays5⟩
              have hcd := cost_drop (X'.map Prod.snd) t
              obtain ⟨rfl, rfl, rfl, rfl, hX5, rfl, hfin⟩ := trim_ok (k := t) HO4.out rfl (by omega) (by rw [contL_cost]; omega) hsays5
              have hX5l : X5.length = M - t := by
                have := congrArg List.length hX5
                simp only [List.length_map, List.length_drop] at this
                rw [this]; have := HM.out; omega
              obtain ⟨z5, rfl, hO5, hz5⟩ : ∃ z5 : Nat, size5 = z5 ∧ OneWal L5 z5 ∧ z5 ≤ 16 + tl E (k + 1) := by
                rcases hfin with ⟨_, rfl, rfl⟩ | ⟨_, h2, rfl⟩
                · exact ⟨z', rfl, HO4.out, hcc.1⟩
                · exact ⟨_, rfl, h2, by rw [contL_cost]; omega⟩
              have HW5 := Lib.hid hW5
              have HO5 := Lib.hid hO5
              have HZ5 := Lib.hid (show z5 ≤ 16 + tl E (k + 1) ∧ cost (X5.map Prod.snd) ≤ tl E (k + 1) ∧ 0 ≤ first + (t : Int) ∧ first + (t : Int) + X5.length ≤ k + 1 from ⟨hz5, by rw [hX5]; omega, by omega, by omega⟩)
              clear hW5 hsays5 hfin hX5 hX5l hO5 hz5 hcd hct hcc hrr hmm hHO hcl hX4 hzz ht
              go_wp2_with fail
              refine (first19 w5 l _ _ _ _ _ HW5.out.log.blk).mono ?_
              rintro e w6 ⟨rfl, hw6⟩
              obtain rfl := hw6
              go_wp2_with fail
              go_roundw
              case rel => exact ⟨k + 1, S5, T5, L5, _, _, X5, z5, hlt, by go_num, HW5.out, HO5.out, HZ5.out.1, HZ5.out.2.1, HZ5.out.2.2.1, HZ5.out.2.2.2⟩
              case measure => simp [intOf]; omega
            · have hk1' : ¬ (k : Int) < (n1 : Int) := by omega
              go_wp2_with fail
              go_roundw
              case rel => exact ⟨k + 1, S', T', L', first, _, X', z', hlt, by go_num, HW4.out, HO4.out, HZ4.out.1, HZ4.out.2.1, HLN.out.2.1, HLN.out.2.2⟩
              case measure => simp [intOf]; omega
          · have h01 : decide (0 < q) = true := decide_eq_true (by omega)
            clear h00
            by_cases hk1 : k < n1
            · have hk1' : (k : Int) < (n1 : Int) := by omega
              go_wp2_with fail
              obtain ⟨hfk, b1, off1, ha1, hbw1, hck1⟩ := HBY.out k hk1
              subst ha1
              have hd2 := (HW4.out.below.low.cell (p := ⟨b1, off1 + k, none⟩) hbw1).trans hck1
              have hwf : IntKind.i64.wrap (f k : Int) = f k := by simp only [IntKind.wrap, IntKind.bits, IntKind.signed]; simp; omega
              obtain ⟨M, hM⟩ : ∃ M, X'.length = M := ⟨_, rfl⟩
              have hLN := HLN.out
              rw [hM] at hLN
              have c19 := fun n => Calls.quiet_of_same (w := w4) (n := n) (v := .int .i64 first) ((first19 (w4.drewN n) l _ first _ _ false HW4.out.log.blk).mono fun _ _ h => ⟨h.1, h.2.symm⟩)
              have c20 := fun n => Calls.quiet_of (w := w4) (n := n) (v := .int .i64 (first + (M : Int))) ((next20 (w4.drewN n) l _ first _ va' M vc' false (hM ▸ HW4.out.log.blk) (by omega) (by omega)).mono fun _ _ h => ⟨h.1, h.2⟩)
              have HM := Lib.hid hM
              clear hM hck1
              go_quiet (first | (go_at_call 19; exact c19 _) | (go_at_call 20; exact c20 _))
              clear c19 c20
              go_wp2_with fail
              obtain ⟨t, ht⟩ : ∃ t : Nat, (f k : Int) % (first + (M : Int) - first + 1) = t := ⟨((f k : Int) % (first + (M : Int) - first + 1)).toNat, by
                have := Int.emod_nonneg (f k : Int) (show first + (M : Int) - first + 1 ≠ 0 by omega)
                omega⟩
              have htM : t ≤ M := by
                have := Int.emod_lt_of_pos (f k : Int) (show 0 < first + (M : Int) - first + 1 by omega)
                omega
              have hzz : wrap64 (first + (f k : Int) % (first + (M : Int) - first + 1)) = first + t := by
                rw [ht]
                unfold wrap64
                omega
              rw [hzz]
              have hX4 : (X'.map Prod.snd).length = M := by rw [List.length_map]; exact HM.out
              have hcl := cost_len (X'.map Prod.snd)
              rw [hX4] at hcl
              have hHO := HO4.out.lens
              have hmm := HMN.out
              have hrr := HRM.out
              have hcc := HZ4.out
              have hct : (contL (first + (t : Int)) X').length = 12 + cost (X'.map Prod.snd) := by rw [contL_snd, contL_cost]
              refine (trim21 (fun _ => False) W _ S' T' _ _ L' _ _ _ l first _ X' _ false _ (HW4.out.later (below_dN w4 nq)) (by omega) (by omega) (by omega) (by omega) (by omega) (by omega) (by rcases HO4.out with ⟨h, _⟩ | ⟨e, h, _⟩ <;> rw [h] <;> simp [maxLen]) (by rw [HM.out]; omega) (by omega)).mono ?_
              rintro e w5 ⟨S5, T5, L5, fuse5, down5, first5, v5, X5, size5, over5, er5, rfl, hW5, hsays5⟩
              have hcd := cost_drop (X'.map Prod.snd) t
              obtain ⟨rfl, rfl, rfl, rfl, hX5, rfl, hfin⟩ := trim_ok (k := t) HO4.out rfl (by omega) (by rw [contL_cost]; omega) hsays5
              have hX5l : X5.length = M - t := by
                have := congrArg List.length hX5
                simp only [List.length_map, List.length_drop] at this
                rw [this]; have := HM.out; omega
              obtain ⟨z5, rfl, hO5, hz5⟩ : ∃ z5 : Nat, size5 = z5 ∧ OneWal L5 z5 ∧ z5 ≤ 16 + tl E (k + 1) := by
                rcases hfin with ⟨_, rfl, rfl⟩ | ⟨_, h2, rfl⟩
                · exact ⟨z', rfl, HO4.out, hcc.1⟩
                · exact ⟨_, rfl, h2, by rw [contL_cost]; omega⟩
              have HW5 := Lib.hid hW5
              have HO5 := Lib.hid hO5
              have HZ5 := Lib.hid (show z5 ≤ 16 + tl E (k + 1) ∧ cost (X5.map Prod.snd) ≤ tl E (k + 1) ∧ 0 ≤ first + (t : Int) ∧ first + (t : Int) + X5.length ≤ k + 1 from ⟨hz5, by rw [hX5]; omega, by omega, by omega⟩)
              clear hW5 hsays5 hfin hX5 hX5l hO5 hz5 hcd hct hcc hrr hmm hHO hcl hX4 hzz ht
              go_wp2_with fail
              refine (first19 w5 l _ _ _ _ _ HW5.out.log.blk).mono ?_
              rintro e w6 ⟨rfl, hw6⟩
              obtain rfl := hw6
              go_wp2_with fail
              go_roundw
              case rel => exact ⟨k + 1, S5, T5, L5, _, _, X5, z5, hlt, by go_num, HW5.out, HO5.out, HZ5.out.1, HZ5.out.2.1, HZ5.out.2.2.1, HZ5.out.2.2.2⟩
              case measure => simp [intOf]; omega
            · have hk1' : ¬ (k : Int) < (n1 : Int) := by omega
              go_wp2_with fail
              go_roundw
              case rel => exact ⟨k + 1, S', T', L', first, _, X', z', hlt, by go_num, HW4.out, HO4.out, HZ4.out.1, HZ4.out.2.1, HLN.out.2.1, HLN.out.2.2⟩
              case measure => simp [intOf]; omega
        · obtain rfl : k = n := by omega
          go_wp2_with fail
          go_ret
          exact ⟨rfl, HW.out.below.low⟩
end Go.Proofs.Ytjkgcpbgacdgaaa
