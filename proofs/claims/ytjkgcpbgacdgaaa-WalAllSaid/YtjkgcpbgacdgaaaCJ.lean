/- The walk of WalAll. No condition. -/
import Derived.Test.YtjkgcpbgacdgaaaCH
import Derived.Test.YtjkgcpbgacdgaaaN
import Derived.Deep.RegionHeld3
namespace Go.Proofs.Ytjkgcpbgacdgaaa
open Go.RowKit Go.Sort Go.Deep Go.WideShapes Go.ChangeShapes
theorem take_d {P : Program} {md : Region.Mode} {ops : Array Oper} {Q : Exit → Act → World → Prop} {S : World → Prop} {i : Nat} {oi : Oper} {v : Value} {fuel : Nat} {listed : Array Bool} {a : Act} {w : World} (d : Option Tmp) (hi : ops[i]? = some oi) (hd : oi.dst = d)
    (hs : Region.noSelect ops = true) (hf : Region.free md ops listed i = true) (hr : (Region.ready md ops listed).contains i = true)
    (hQ : ∀ c a w, Q (.panic c) (a.put oi.dst v) w → Q (.panic c) a w) (hy : YieldsIf P ops S oi v a) (hS : S w)
    (h : wpAnyH P md ops Q S fuel (listed.setIfInBounds i true) (a.put d v) w) : wpAnyH P md ops Q S (fuel + 1) listed a w :=
  wpAnyH_take hi hs hf hr hQ hy hS (hd ▸ h)
/-- What is held may be more from here on. -/
theorem anyH_weaken {P : Program} {md : Region.Mode} {ops : Array Oper} {Q : Exit → Act → World → Prop} {S S2 : World → Prop} (hs : ∀ w, S2 w → S w) : ∀ (fuel : Nat) (listed : Array Bool) (a : Act) (w : World), wpAnyH P md ops Q S2 fuel listed a w → wpAnyH P md ops Q S fuel listed a w
  | 0, _, _, _, h => h
  | fuel + 1, _, _, _, h => ⟨h.1, fun i hi => wpOp_mono (fun a' w' h' => ⟨hs w' h'.1, anyH_weaken hs fuel _ a' w' h'.2⟩) (h.2 i hi)⟩
def InShort (W : World) (E : Nat → EntX) (n : Nat) (i : Value) (wr : World) : Prop :=
  ∃ k : Nat, k ≤ n ∧ i = .int .i64 k ∧ (∀ j, j < k → (E j).l.length ≤ 2000) ∧ Below W.heap.size W wr
def InFirst (W : World) (r n : Nat) (room : Int) (i : Value) (wr : World) : Prop :=
  ∃ (k : Nat) (fuse : Int) (F : Nat) (Y : List (List UInt8)) (mb : Option (Nat × List (List UInt8))), k ≤ n ∧ i = .int .i64 k ∧ RunOk W wr r room fuse k (1048576 * k) F Y mb
set_option maxHeartbeats 8000000 in
set_option maxRecDepth 100000 in
theorem walAll_walk (H : Type) (enc : TypeId × Value → H) (W : World) (base : Nat) (v0 v1 v2 v3 : Value) (d0 d1 d2 d3 : DataW H) (p0 p1 p2 p3 : List MemPlace) (h0 : DataW.Trod enc Try.prog W 0 (fun _ => true) true 33 v0 d0 p0) (o0 : Value.okWide Try.prog W .any base 33 v0) (h1 : DataW.Trod enc Try.prog W 0 (fun _ => true) true 23 v1 d1 p1) (o1 : Value.okWide Try.prog W .any base 23 v1) (h2 : DataW.Trod enc Try.prog W 0 (fun _ => true) true 23 v2 d2 p2) (o2 : Value.okWide Try.prog W .any base 23 v2) (h3 : DataW.Trod enc Try.prog W 0 (fun _ => true) true 5 v3 d3 p3) (o3 : Value.okWide Try.prog W .any base 5 v3) :
    Calls Try.prog 9 #[v0, v1, v2, v3] W fun e w' => e = .returned (.bool true) ∧ Below W.heap.size W w' := by
  obtain ⟨a, n, cap, E, rfl, _, hn, hE⟩ := entries_open h0 o0
  obtain ⟨a1, cap1, b, rfl, _, hb9, hbsrc⟩ := bytes_src h1 o1
  obtain ⟨a2, cap2, cs, rfl, _, hc9, hcsrc⟩ := bytes_src h2 o2
  obtain ⟨tr, rfl, rfl, rfl, wr0⟩ := open_int Try.underlying5 o3 h3
  obtain ⟨nb, hnb⟩ : ∃ n, b.length = n := ⟨_, rfl⟩
  obtain ⟨nc, hnc⟩ : ∃ n, cs.length = n := ⟨_, rfl⟩
  rw [hnb] at hbsrc hb9
  rw [hnc] at hcsrc
  rw [hnb, hnc]
  have HE := Lib.hid hE
  have HNB := Lib.hid hnb
  have HBS := Lib.hid (show ∀ w', Below W.heap.size W w' → SrcN w' 1 (.slice a1 nb cap1) nb (Lib.byteCells b) from fun w' hb => by
    have h1 := (src_srcN (src_later (hbsrc (fun x => W.heap.size ≤ x) fun _ h => h) hb)).1
    rw [Lib.byteCells_length, hnb] at h1
    exact h1)
  have HCS := Lib.hid (show ∀ w', Below W.heap.size W w' → ∀ S, (∀ x, S x → W.heap.size ≤ x) → SrcAt w' S (.slice a2 nc cap2) (Lib.byteCells cs) from fun w' hb S hS => src_later (hcsrc S hS) hb)
  have HES := Lib.hid (show ∀ i, i < n → ∀ w', Below W.heap.size W w' → SrcN w' 1 (.slice (E i).a (E i).l.length (E i).cap) (E i).l.length (Lib.byteCells (E i).l) from fun i hi w' hb => by
    obtain ⟨_, _, _, _, _, h4, _⟩ := hE i hi
    rw [Lib.byteCells_length] at h4
    exact h4.later hb)
  have htr : 0 ≤ tr ∧ tr ≤ 255 := by simpa [Lit.wf, IntKind.min, IntKind.max, IntKind.signed, IntKind.bits] using wr0
  obtain ⟨htr0, htr1⟩ := htr
  clear h0 o0 h1 o1 h2 o2 h3 o3 hE hbsrc hcsrc hnb hnc wr0 hb9 hc9
  go_enter Try.func9, Try.ntmps9
  go_wp2_with fail
  refine (awake16 _).mono ?_
  rintro e w1 ⟨rfl, hb1⟩
  have HB1 := Lib.hid hb1
  clear hb1
  by_cases h8 : (8 : Int) < (n : Int)
  · go_wp2_with fail
    refine (awake16 _).mono ?_
    rintro e w2 ⟨rfl, hb2⟩
    have HB2 := Lib.hid (HB1.out.trans (hb2.mono HB1.out.size))
    clear hb2
    go_wp2_with fail
    go_ret
    exact ⟨rfl, HB2.out⟩
  by_cases h2k : (2000 : Int) < (nb : Int)
  · go_wp2_with fail
    refine (awake16 _).mono ?_
    rintro e w2 ⟨rfl, hb2⟩
    have HB2 := Lib.hid (HB1.out.trans (hb2.mono HB1.out.size))
    clear hb2
    go_wp2_with fail
    go_ret
    exact ⟨rfl, HB2.out⟩
  go_wp2_with fail
  go_loopw [29] (fun i wr => InShort W E n i wr) (fun i _ => n - (intOf i).toNat)
  case atStart => exact ⟨0, Nat.zero_le _, rfl, fun j hj => absurd hj (Nat.not_lt_zero _), HB1.out⟩
  case round =>
    obtain ⟨k, hk, rfl, hs, hb⟩ := hrel
    have HS := Lib.hid hs
    have HB := Lib.hid hb
    clear hs hb
    by_cases hlt : k < n
    · obtain ⟨b0, off, ha, hbw, hck, -, -, -⟩ := HE.out k hlt
      subst ha
      have hc := (HB.out.cell (p := ⟨b0, off + k, none⟩) hbw).trans hck
      by_cases hl : (E k).l.length ≤ 2000
      · go_wp2_with fail
        go_roundw
        case rel => exact ⟨k + 1, hlt, by go_num, fun j hj => by
          by_cases hj' : j = k
          · subst hj'; exact hl
          · exact HS.out j (by omega), HB.out⟩
        case measure => simp [intOf]; omega
      · have hl' : (2000 : Int) < ((E k).l.length : Int) := by omega
        go_wp2_with fail
        go_ret
        exact ⟨rfl, HB.out⟩
    · obtain rfl : n = k := by omega
      have HNS := Lib.hid (show ∀ j, j < n → (E j).l.length ≤ 2000 from HS.out)
      go_wp2_with fail
      go_loopw [39] (fun i wr' => ∃ k : Nat, k ≤ 12 ∧ i = .int .i64 k ∧ Below W.heap.size W wr') (fun i _ => 12 - (intOf i).toNat)
      case atStart => exact ⟨0, Nat.zero_le _, rfl, HB.out⟩
      case round =>
        rename World => wo
        obtain ⟨k, hk12, rfl, hb⟩ := hrel
        have HBK := Lib.hid hb
        clear hb
        by_cases hkl : k < 12
        · have hkd : decide ((k : Int) < 12) = true := decide_eq_true (by omega)
          go_wp2_with fail
          refine (new 1073741824 _ (by omega)).mono ?_
          rintro e w2 ⟨rfl, hd2, hb2, hs2⟩
          have hmx : max (1073741824 : Int) 0 = 1073741824 := by omega
          rw [hmx] at hd2
          have hb2' := HBK.out.trans (hb2.mono HBK.out.size)
          have hWs := HBK.out.size
          have hrd := ready_new hd2 (fun k hk => by rcases hk with rfl | rfl <;> omega) hb2'
          obtain ⟨w3, hw3⟩ : ∃ w3, (w2.alloc (.cells #[.int .i64 0, .slice none 0 0, .bool false] 64)).alloc (.cells #[.pointer (some ⟨wo.heap.size + 1, 0, none⟩), .pointer none, .pointer (some ⟨w2.heap.size, 0, none⟩), .pointer none] 66) = w3 := ⟨_, rfl⟩
          unfold docO runO at hrd
          rw [hw3] at hrd
          obtain ⟨r, hr⟩ : ∃ r, w2.heap.size + 1 = r := ⟨_, rfl⟩
          rw [hr] at hrd
          have HRD := Lib.hid hrd
          clear hd2 hb2 hs2 hmx hb2' hWs hrd
          go_wp2_with fail
          refine (open35 W w3 r 1073741824 (-1) 0 0 0 [] none 0 [] HRD.out none 0 0 [] (src_nil W) (by omega) (by omega)).mono ?_
          rintro e w4 ⟨rfl, fuse4, hok4, _⟩
          have HOK4 := Lib.hid hok4
          clear hok4 hw3 hr
          go_wp2_with fail
          go_loopw [52] (fun i wr' => InFirst W r n 1073741824 i wr') (fun i _ => n - (intOf i).toNat)
          case atStart => exact ⟨0, fuse4, 0, [], none, Nat.zero_le _, rfl, HOK4.out⟩
          case round =>
            rename World => w5
            obtain ⟨j, fuse5, F5, Y5, mb5, hj, rfl, hok5⟩ := hrel
            have HOK5 := Lib.hid hok5
            clear hok5
            by_cases hjl : j < n
            · obtain ⟨b0, off, ha, hbw, hck, -, -, -⟩ := HE.out j hjl
              subst ha
              have hc := (HOK5.out.below.cell (p := ⟨b0, off + j, none⟩) hbw).trans hck
              have hlj := HNS.out j hjl
              have HCA := Lib.hid (call36A W w5 r 1073741824 fuse5 j (1048576 * j) F5 Y5 mb5 HOK5.out 0 (E j).a (E j).l.length (E j).cap (E j).l rfl (HES.out j hjl) (by omega) (by omega) (by omega) (by omega))
              clear hck
              go_wp2_with fail
              refine HCA.out.mono ?_
              rintro e w6 ⟨rfl, fuse6, F6, Y6, mb6, hok6, _⟩
              have HOK6 := Lib.hid (hok6.mono (K' := j + 1) (B' := 1048576 * (j + 1)) (Nat.le_refl _) (by omega))
              clear hok6
              go_wp2_with fail
              go_roundw
              case rel => exact ⟨j + 1, fuse6, F6, Y6, mb6, hjl, by go_num, HOK6.out⟩
              case measure => simp [intOf]; omega
            · obtain rfl : n = j := by omega
              obtain ⟨d5, hc5, hcall5⟩ := HOK5.out.setFuse ((k : Int) / 2) (by omega)
              have HCALL5 := Lib.hid hcall5
              clear hcall5
              go_wp2_with fail
              refine HCALL5.out.mono ?_
              rintro e w6 ⟨rfl, hok6⟩
              have HOK6 := Lib.hid hok6
              clear hok6 hc5
              have hodd : ((k : Int) % 2 == 1) = true ∨ ((k : Int) % 2 == 1) = false := by cases ((k : Int) % 2 == 1) <;> simp
              have HCT := Lib.hid (call36T W _ r 1073741824 _ n (1048576 * n) F5 Y5 mb5 (HOK6.out.later ((Below.refl _ _).alloc (Nat.le_refl _) (.cells #[.int .i64 2, .int .i64 (tr % ((n : Int) + 1)), .slice none 0 0] 70))) (tr % ((n : Int) + 1)) none 0 0 (by omega) (by omega) (by omega))
              have HCA := Lib.hid (call36A W _ r 1073741824 _ n (1048576 * n) F5 Y5 mb5 (HOK6.out.later ((Below.refl _ _).alloc (Nat.le_refl _) (.cells #[.int .i64 1, .int .i64 0, .slice a1 nb cap1] 70))) 0 a1 nb cap1 b HNB.out HBS.out (by omega) (by omega) (by omega) (by omega))
              rcases hodd with hod | hod
              all_goals
                go_wp2_with fail
                first
                  | with_reducible refine HCT.out.mono ?_
                  | with_reducible refine HCA.out.mono ?_
                rintro e w7 ⟨rfl, fuse7, F7, Y7, mb7, hok7, _⟩
                have HOK7 := Lib.hid (hok7.mono (K' := n + 1) (B' := 1048576 * (n + 1)) (by omega) (by omega))
                obtain ⟨d8, hc8, hcall8⟩ := HOK7.out.restart (by omega) (by omega) (.slice a2 nc cap2) cs HCS.out
                have HCALL8 := Lib.hid hcall8
                clear hok7 hcall8
                go_wp2_with fail
                refine HCALL8.out.mono ?_
                rintro e w8 ⟨rfl, F8, Y8, hrd8⟩
                have HRD8 := Lib.hid hrd8
                clear hrd8 hc8
                go_wp2_with fail
                refine (open35 W w8 r 1073741824 (-1) (n + 1) (1048576 * (n + 1)) F7 Y7 mb7 F8 Y8 HRD8.out a2 nc cap2 cs HCS.out (by omega) (by omega)).mono ?_
                rintro e w9 ⟨rfl, fuse9, hok9, hneg9⟩
                obtain rfl := hneg9 rfl
                have HOK9 := Lib.hid hok9
                have HCA9 := Lib.hid (call36A W w9.drew r 1073741824 (-1) (n + 1) (1048576 * (n + 1)) F8 Y8 none (hok9.later ((Below.refl _ _).drew)) 0 a1 nb cap1 b HNB.out HBS.out (by omega) (by omega) (by omega) (by omega))
                clear hok9 hneg9
                go_wp2_with fail
                have hTr : True := trivial
                refine wp_region_held_drew (S := fun _ => True) (by kernel_rfl) trivial (fun hHeld => ?_)
                refine take_d (i := 0) (v := ?_) (some 97) rfl (by kernel_rfl) (by kernel_rfl) (by kernel_rfl) (by kernel_rfl) (fun _ _ _ h => h) (Or.inl ⟨by kernel_rfl, ?_⟩) (by assumption) ?_
                rotate_left
                · (intro w hSw; (try dsimp only at hSw); go_simp; first | done | with_reducible rfl)
                try simp only [Act.put, List.setIfInBounds_toArray, List.set_cons_zero, List.set_cons_succ]
                refine take_d (i := 1) (v := ?_) (some 98) rfl (by kernel_rfl) (by kernel_rfl) (by kernel_rfl) (by kernel_rfl) (fun _ _ _ h => h) (Or.inl ⟨by kernel_rfl, ?_⟩) (by assumption) ?_
                rotate_left
                · (intro w hSw; (try dsimp only at hSw); go_simp; first | done | with_reducible rfl)
                try simp only [Act.put, List.setIfInBounds_toArray, List.set_cons_zero, List.set_cons_succ]
                refine take_d (i := 2) (v := ?_) (some 99) rfl (by kernel_rfl) (by kernel_rfl) (by kernel_rfl) (by kernel_rfl) (fun _ _ _ h => h) (Or.inl ⟨by kernel_rfl, ?_⟩) (by assumption) ?_
                rotate_left
                · (intro w hSw; (try dsimp only at hSw); go_simp; first | done | with_reducible rfl)
                try simp only [Act.put, List.setIfInBounds_toArray, List.set_cons_zero, List.set_cons_succ]
                refine wpAnyH_ready (rs := [3]) (by kernel_rfl) (by simp) ?_
                refine AllReadyH.cons (o := { dst := some 100, op := Op.call { callee := Callee.value (Operand.func 36), args := #[Operand.tmp 97, Operand.tmp 99], argTypes := #[61, 70] }, type := 4, pos := "law.go:181", after := #[{ on := 0, ground := Ground.data }, { on := 2, ground := Ground.data }], guard := none }) rfl (fun K hK => ?_) AllReadyH.nil
                go_simp
                refine HCA9.out.mono ?_; rintro e w10 ⟨rfl, fuse10, F10, Y10, mb10, hok10, hmb10⟩; obtain rfl := hmb10 rfl rfl; obtain ⟨qo, hqo, hqo2⟩ := hok10.may; obtain ⟨l10, p10, hl10, hp10, hs10⟩ := hok10.same (by omega) (by omega); have hrl : r < w10.heap.size := (by obtain ⟨_, _, _, _, _, h9, _⟩ := hok10.disks; exact h9); have HOK10 := Lib.hid hok10; have HS10 := Lib.hid hs10; clear hok10 hs10 hmb10; obtain rfl : qo = none := by cases qo with | none => rfl | some q => cases hqo2
                go_wp2_with fail
                refine hK.out _ _ ?_ (fun hHeld => ?_)
                · trivial
                clear hK K
                try simp only [Act.put, List.setIfInBounds_toArray, List.set_cons_zero, List.set_cons_succ]
                clear hHeld
                have hHeld : w10.cell? ⟨r, 3, none⟩ = some (.pointer none) ∧ w10.cell? ⟨r, 1, none⟩ = some (.pointer (some ⟨l10, 0, none⟩)) ∧ w10.cell? ⟨r, 2, none⟩ = some (.pointer (some ⟨p10, 0, none⟩)) := ⟨hqo, hl10, hp10⟩
                clear hqo hl10 hp10
                refine anyH_weaken (S2 := fun w' => w'.cell? ⟨r, 3, none⟩ = some (.pointer none) ∧ w'.cell? ⟨r, 1, none⟩ = some (.pointer (some ⟨l10, 0, none⟩)) ∧ w'.cell? ⟨r, 2, none⟩ = some (.pointer (some ⟨p10, 0, none⟩))) (fun _ _ => trivial) _ _ _ _ ?_
                refine take_d (i := 4) (v := ?_) (some 101) rfl (by kernel_rfl) (by kernel_rfl) (by kernel_rfl) (by kernel_rfl) (fun _ _ _ h => h) (Or.inl ⟨by kernel_rfl, ?_⟩) (by assumption) ?_
                rotate_left
                · (intro w hSw; (try dsimp only at hSw); go_simp; first | done | with_reducible rfl)
                try simp only [Act.put, List.setIfInBounds_toArray, List.set_cons_zero, List.set_cons_succ]
                refine take_d (i := 5) (v := ?_) (some 102) rfl (by kernel_rfl) (by kernel_rfl) (by kernel_rfl) (by kernel_rfl) (fun _ _ _ h => h) (Or.inl ⟨by kernel_rfl, ?_⟩) (by assumption) ?_
                rotate_left
                · (intro w hSw; (try dsimp only at hSw); go_simp; first | done | with_reducible rfl)
                try simp only [Act.put, List.setIfInBounds_toArray, List.set_cons_zero, List.set_cons_succ]
                refine take_d (i := 6) (v := ?_) (some 103) rfl (by kernel_rfl) (by kernel_rfl) (by kernel_rfl) (by kernel_rfl) (fun _ _ _ h => h) (Or.inl ⟨by kernel_rfl, ?_⟩) (by assumption) ?_
                rotate_left
                · (intro w hSw; (try dsimp only at hSw); go_simp; first | done | with_reducible rfl)
                try simp only [Act.put, List.setIfInBounds_toArray, List.set_cons_zero, List.set_cons_succ]
                refine take_d (i := 7) (v := ?_) (some 104) rfl (by kernel_rfl) (by kernel_rfl) (by kernel_rfl) (by kernel_rfl) (fun _ _ _ h => h) (Or.inl ⟨by kernel_rfl, ?_⟩) (by assumption) ?_
                rotate_left
                · (intro w hSw; (try dsimp only at hSw); go_simp; first | done | with_reducible rfl)
                try simp only [Act.put, List.setIfInBounds_toArray, List.set_cons_zero, List.set_cons_succ]
                refine take_d (i := 8) (v := ?_) (some 105) rfl (by kernel_rfl) (by kernel_rfl) (by kernel_rfl) (by kernel_rfl) (fun _ _ _ h => h) (Or.inl ⟨by kernel_rfl, ?_⟩) (by assumption) ?_
                rotate_left
                · (intro w hSw; (try dsimp only at hSw); go_simp; first | done | with_reducible rfl)
                try simp only [Act.put, List.setIfInBounds_toArray, List.set_cons_zero, List.set_cons_succ]
                refine take_d (i := 9) (v := ?_) (some 106) rfl (by kernel_rfl) (by kernel_rfl) (by kernel_rfl) (by kernel_rfl) (fun _ _ _ h => h) (Or.inl ⟨by kernel_rfl, ?_⟩) (by assumption) ?_
                rotate_left
                · (intro w hSw; (try dsimp only at hSw); go_simp; first | done | with_reducible rfl)
                try simp only [Act.put, List.setIfInBounds_toArray, List.set_cons_zero, List.set_cons_succ]
                refine take_d (i := 10) (v := ?_) (some 107) rfl (by kernel_rfl) (by kernel_rfl) (by kernel_rfl) (by kernel_rfl) (fun _ _ _ h => h) (Or.inl ⟨by kernel_rfl, ?_⟩) (by assumption) ?_
                rotate_left
                · (intro w hSw; (try dsimp only at hSw); go_simp; first | done | with_reducible rfl)
                try simp only [Act.put, List.setIfInBounds_toArray, List.set_cons_zero, List.set_cons_succ]
                refine take_d (i := 11) (v := ?_) (some 108) rfl (by kernel_rfl) (by kernel_rfl) (by kernel_rfl) (by kernel_rfl) (fun _ _ _ h => h) (Or.inl ⟨by kernel_rfl, ?_⟩) (by assumption) ?_
                rotate_left
                · (intro w hSw; (try dsimp only at hSw); go_simp; first | done | with_reducible rfl)
                try simp only [Act.put, List.setIfInBounds_toArray, List.set_cons_zero, List.set_cons_succ]
                refine take_d (i := 12) (v := ?_) (some 109) rfl (by kernel_rfl) (by kernel_rfl) (by kernel_rfl) (by kernel_rfl) (fun _ _ _ h => h) (Or.inl ⟨by kernel_rfl, ?_⟩) (by assumption) ?_
                rotate_left
                · (intro w hSw; (try dsimp only at hSw); go_simp; first | done | with_reducible rfl)
                try simp only [Act.put, List.setIfInBounds_toArray, List.set_cons_zero, List.set_cons_succ]
                refine take_d (i := 13) (v := ?_) (some 110) rfl (by kernel_rfl) (by kernel_rfl) (by kernel_rfl) (by kernel_rfl) (fun _ _ _ h => h) (Or.inl ⟨by kernel_rfl, ?_⟩) (by assumption) ?_
                rotate_left
                · (intro w hSw; (try dsimp only at hSw); go_simp; first | done | with_reducible rfl)
                try simp only [Act.put, List.setIfInBounds_toArray, List.set_cons_zero, List.set_cons_succ]
                refine take_d (i := 14) (v := ?_) (some 111) rfl (by kernel_rfl) (by kernel_rfl) (by kernel_rfl) (by kernel_rfl) (fun _ _ _ h => h) (Or.inl ⟨by kernel_rfl, ?_⟩) (by assumption) ?_
                rotate_left
                · (intro w hSw; (try dsimp only at hSw); go_simp; first | done | with_reducible rfl)
                try simp only [Act.put, List.setIfInBounds_toArray, List.set_cons_zero, List.set_cons_succ]
                refine take_d (i := 15) (v := ?_) (some 112) rfl (by kernel_rfl) (by kernel_rfl) (by kernel_rfl) (by kernel_rfl) (fun _ _ _ h => h) (Or.inl ⟨by kernel_rfl, ?_⟩) (by assumption) ?_
                rotate_left
                · (intro w hSw; (try dsimp only at hSw); go_simp; first | done | with_reducible rfl)
                try simp only [Act.put, List.setIfInBounds_toArray, List.set_cons_zero, List.set_cons_succ]
                refine take_d (i := 16) (v := ?_) (some 113) rfl (by kernel_rfl) (by kernel_rfl) (by kernel_rfl) (by kernel_rfl) (fun _ _ _ h => h) (Or.inl ⟨by kernel_rfl, ?_⟩) (by assumption) ?_
                rotate_left
                · (intro w hSw; (try dsimp only at hSw); go_simp; first | done | with_reducible rfl)
                try simp only [Act.put, List.setIfInBounds_toArray, List.set_cons_zero, List.set_cons_succ]
                refine take_d (i := 17) (v := ?_) (some 114) rfl (by kernel_rfl) (by kernel_rfl) (by kernel_rfl) (by kernel_rfl) (fun _ _ _ h => h) (Or.inl ⟨by kernel_rfl, ?_⟩) (by assumption) ?_
                rotate_left
                · (intro w hSw; (try dsimp only at hSw); go_simp; first | done | with_reducible rfl)
                try simp only [Act.put, List.setIfInBounds_toArray, List.set_cons_zero, List.set_cons_succ]
                refine take_d (i := 18) (v := ?_) (some 115) rfl (by kernel_rfl) (by kernel_rfl) (by kernel_rfl) (by kernel_rfl) (fun _ _ _ h => h) (Or.inl ⟨by kernel_rfl, ?_⟩) (by assumption) ?_
                rotate_left
                · (intro w hSw; (try dsimp only at hSw); go_simp; first | done | with_reducible rfl)
                try simp only [Act.put, List.setIfInBounds_toArray, List.set_cons_zero, List.set_cons_succ]
                refine take_d (i := 19) (v := ?_) (some 116) rfl (by kernel_rfl) (by kernel_rfl) (by kernel_rfl) (by kernel_rfl) (fun _ _ _ h => h) (Or.inl ⟨by kernel_rfl, ?_⟩) (by assumption) ?_
                rotate_left
                · (intro w hSw; (try dsimp only at hSw); go_simp; first | done | with_reducible rfl)
                try simp only [Act.put, List.setIfInBounds_toArray, List.set_cons_zero, List.set_cons_succ]
                refine wpAnyH_ready (rs := [20]) (by kernel_rfl) (by simp) ?_
                refine AllReadyH.cons (o := { dst := some 117, op := Op.call { callee := Callee.value (Operand.func 37), args := #[Operand.tmp 112, Operand.tmp 116], argTypes := #[34, 62] }, type := 4, pos := "law.go:181", after := #[{ on := 15, ground := Ground.data }, { on := 19, ground := Ground.data }, { on := 11, ground := Ground.chain }, { on := 11, ground := Ground.guard }], guard := some (11, true) }) rfl (fun K hK => ?_) AllReadyH.nil
                go_simp
                refine (HS10.out w10 (Below.refl _ _)).mono ?_; rintro e w11 ⟨rfl, hb11⟩; have HOK11 := Lib.hid (HOK10.out.later hb11); have hH11 : w11.cell? ⟨r, 3, none⟩ = some (.pointer none) ∧ w11.cell? ⟨r, 1, none⟩ = some (.pointer (some ⟨l10, 0, none⟩)) ∧ w11.cell? ⟨r, 2, none⟩ = some (.pointer (some ⟨p10, 0, none⟩)) := ⟨(hb11.cell (p := ⟨r, 3, none⟩) hrl).trans hHeld.1, (hb11.cell (p := ⟨r, 1, none⟩) hrl).trans hHeld.2.1, (hb11.cell (p := ⟨r, 2, none⟩) hrl).trans hHeld.2.2⟩; clear hb11
                go_wp2_with fail
                refine hK.out _ _ ?_ (fun hHeld => ?_)
                · exact hH11
                clear hK K
                try simp only [Act.put, List.setIfInBounds_toArray, List.set_cons_zero, List.set_cons_succ]
                refine take_d (i := 21) (v := ?_) (some 118) rfl (by kernel_rfl) (by kernel_rfl) (by kernel_rfl) (by kernel_rfl) (fun _ _ _ h => h) (Or.inl ⟨by kernel_rfl, ?_⟩) (by assumption) ?_
                rotate_left
                · (intro w hSw; (try dsimp only at hSw); go_simp; first | done | with_reducible rfl)
                try simp only [Act.put, List.setIfInBounds_toArray, List.set_cons_zero, List.set_cons_succ]
                refine take_d (i := 22) (v := ?_) (some 119) rfl (by kernel_rfl) (by kernel_rfl) (by kernel_rfl) (by kernel_rfl) (fun _ _ _ h => h) (Or.inl ⟨by kernel_rfl, ?_⟩) (by assumption) ?_
                rotate_left
                · (intro w hSw; (try dsimp only at hSw); go_simp; first | done | with_reducible rfl)
                try simp only [Act.put, List.setIfInBounds_toArray, List.set_cons_zero, List.set_cons_succ]
                refine take_d (i := 23) (v := ?_) (some 120) rfl (by kernel_rfl) (by kernel_rfl) (by kernel_rfl) (by kernel_rfl) (fun _ _ _ h => h) (Or.inl ⟨by kernel_rfl, ?_⟩) (by assumption) ?_
                rotate_left
                · (intro w hSw; (try dsimp only at hSw); go_simp; first | done | with_reducible rfl)
                try simp only [Act.put, List.setIfInBounds_toArray, List.set_cons_zero, List.set_cons_succ]
                refine wpAnyH_done (by kernel_rfl) ?_ _
                go_wp2_with fail
                go_roundw
                case rel => exact ⟨k + 1, by omega, by go_num, HOK11.out.below⟩
                case measure => simp [intOf]; omega
        · obtain rfl : k = 12 := by omega
          go_wp2_with fail
          go_ret
          exact ⟨rfl, HBK.out⟩
end Go.Proofs.Ytjkgcpbgacdgaaa
