/- The walk of WalPlays. Condition: the form's reach. -/
import Derived.Test.YtjkgcpbgacdgaaaCH
import Derived.Test.YtjkgcpbgacdgaaaCK
import Derived.Deep.RegionHeld3
namespace Go.Proofs.Ytjkgcpbgacdgaaa
open Go.RowKit Go.Sort Go.Deep Go.WideShapes Go.ChangeShapes
theorem RunOk.restartB {W w w1 : World} {r K B F : Nat} {room fuse : Int} {Y : List (List UInt8)} {mb : Option (Nat × List (List UInt8))} (h : RunOk W w r room fuse K B F Y mb) (hb : Below w.heap.size w w1) (hK : K ≤ 1000) (hB : B ≤ 1000000000) (src : Value) (cs : List UInt8) (hsrc : ∀ w', Below W.heap.size W w' → ∀ S, (∀ x, S x → W.heap.size ≤ x) → SrcAt w' S src (Lib.byteCells cs)) : ∃ d, w1.cell? ⟨r, 0, none⟩ = some (.pointer (some ⟨d, 0, none⟩)) ∧ Calls Try.prog 23 #[.pointer (some ⟨d, 0, none⟩), src] w1 fun e w' => e = .returned (.tuple #[]) ∧ (∃ F' Y', Ready W w' r room (-1) K B F Y mb F' Y') ∧ w'.heap[r]? = w1.heap[r]? ∧ ∀ k, w.heap.size ≤ k → k < w1.heap.size → w'.heap[k]? = w1.heap[k]? := by
  obtain ⟨S, U, T, d, m, p, l, qv, L, v, X, dv, DX, z, hrun0, hlog, hX, hdoc0, hDX, hfu, hbd, hz, hmode0⟩ := h
  have hlow := fun k hk => (hrun0.low k (.inl hk)).2
  have hrun := hrun0.later hb
  have hdoc := hdoc0.later hb
  have hfl := hbd.fl hK hB
  have hgood : Good L ∧ L.length ≤ 2 := by
    rcases hmode0 with ⟨_, _, h3⟩ | ⟨MF, MY, q, qd, QX, h1, _, _, _, _, h6⟩
    · exact ⟨h3.good hz, by have := (lens_clean h3).2; omega⟩
    · exact ⟨h6.good (by omega), (lens_torn h6 hfl.1).2⟩
  refine ⟨d, (run_cells hrun.blk).1, (Ytjkgcpbgacdgaaa.restart w1 S d m L room fuse _ src cs (fun k hk => (hrun.low k (.inl hk)).2) hrun.disk hgood.1 (by omega) (hsrc w1 hrun.below S fun k hk => (hrun.low k (.inl hk)).1)).mono ?_⟩
  rintro e w' ⟨rfl, ht, hd⟩
  refine ⟨rfl, ?_, ht.block r (blk_lt hrun.blk) (fun e => (hrun.sep r e).2 rfl), fun k hk1 hk2 => ht.block k hk2 fun e => by have := hlow k e; omega⟩
  have hrun2 := hrun.turn' ht hd
  have hdoc2 := hdoc.turn hrun ht
  have hfn : FuseOk (-1) := ⟨by omega, by omega⟩
  rcases hmode0 with ⟨h1, h2, h3⟩ | ⟨MF, MY, q, qd, QX, h1, h2, h3, h4, h5, h6⟩
  · have hc := rst_clean h3 cs
    exact ⟨F, Y, S, U, d, m, p, _, qv, _, dv, DX, _, [], z, hrun2, ⟨_, rfl⟩, hdoc2, hDX, hfn, hbd, hbd, hc.openable, hc.good hz, .inl rfl, .inl ⟨h1, h2, rfl, rfl⟩⟩
  · obtain ⟨F', Y', t, z2, hop, hch⟩ := rst_torn h6 cs
    have hbd' : Bd K B F' Y' := by
      rcases hch with ⟨rfl, rfl⟩ | ⟨rfl, rfl⟩
      · exact hbd
      · exact h5
    exact ⟨F', Y', S, U, d, m, p, _, qv, _, dv, DX, _, t, z2, hrun2, ⟨_, rfl⟩, hdoc2, hDX, hfn, hbd, hbd', hop, good_rst hgood.1 cs, .inl rfl, .inr ⟨MF, MY, q, qd, QX, h1, h2, (h3.later hb).turn hrun ht, h4, h5, hch⟩⟩
theorem RunOk.disksB {W w : World} {r K B F : Nat} {room fuse : Int} {Y : List (List UInt8)} {mb : Option (Nat × List (List UInt8))} (h : RunOk W w r room fuse K B F Y mb) : ∃ S d m L, w.cell? ⟨r, 0, none⟩ = some (.pointer (some ⟨d, 0, none⟩)) ∧ r < w.heap.size ∧ ¬ S r ∧ (∀ k, S k → k < w.heap.size) ∧ DiskAt w S d m L room fuse mb.isSome ∧ FuseOk fuse ∧ (K ≤ 1000 → B ≤ 1000000000 → lens L ≤ 1000000000000) ∧
    ∀ w' room' fuse', Turns S w w' → DiskAt w' S d m L room' fuse' mb.isSome → FuseOk fuse' → RunOk W w' r room' fuse' K B F Y mb := by
  obtain ⟨S, U, T, d, m, p, l, qv, L, v, X, dv, DX, z, hrun, hlog, hX, hdoc, hDX, hfu, hbd, hz, hmode⟩ := h
  refine ⟨S, d, m, L, (run_cells hrun.blk).1, blk_lt hrun.blk, fun e => (hrun.sep r e).2 rfl, fun k hk => (hrun.low k (.inl hk)).2, hrun.disk, hfu, fun hK hB => ?_, fun w' room' fuse' ht hd hf => ?_⟩
  · refine (RunOk.sizes (q := True) (z := z) hbd hK hB (mb := mb) ?_).1
    rcases hmode with ⟨h1, _, h3⟩ | ⟨MF, MY, q, qd, QX, h1, _, _, _, _, h6⟩
    · exact .inl ⟨h1, trivial, h3⟩
    · exact .inr ⟨MF, MY, h1, h6⟩
  · refine ⟨S, U, T, d, m, p, l, qv, L, v, X, dv, DX, z, hrun.turn' ht hd, hlog.turn ht, hX, hdoc.turn hrun ht, hDX, hf, hbd, hz, ?_⟩
    rcases hmode with h1 | ⟨MF, MY, q, qd, QX, h1, h2, h3, h4⟩
    · exact .inl h1
    · exact .inr ⟨MF, MY, q, qd, QX, h1, h2, h3.turn hrun ht, h4⟩
theorem OnlyD.two {d r Bk i j : Nat} {w w' : World} {u v : Value} (h : OnlyD d w w') (hr : r ≠ d) (hB : Bk ≠ d) (h1 : w.cell? ⟨r, i, none⟩ = some u) (h2 : w.cell? ⟨Bk, j, none⟩ = some v) : w'.cell? ⟨r, i, none⟩ = some u ∧ w'.cell? ⟨Bk, j, none⟩ = some v :=
  ⟨(World.cell?_of_block (h.2.2.2.2 r hr)).trans h1, (World.cell?_of_block (h.2.2.2.2 Bk hB)).trans h2⟩
theorem room_bd (u : Nat) (hu : u ≤ 1000000000000) (nn : Int) : 0 ≤ max (IntKind.i64.wrap ((u : Int) + IntKind.i64.wrap ((IntKind.u64.wrap nn).tmod 200))) 0 ∧ max (IntKind.i64.wrap ((u : Int) + IntKind.i64.wrap ((IntKind.u64.wrap nn).tmod 200))) 0 < 2 ^ 62 := by
  have h0 : 0 ≤ IntKind.u64.wrap nn := by
    simp only [IntKind.wrap, IntKind.bits, IntKind.signed]
    simp
    omega
  have h1 : (IntKind.u64.wrap nn).tmod 200 = IntKind.u64.wrap nn % 200 := Int.tmod_eq_emod_of_nonneg h0
  rw [h1]
  generalize IntKind.u64.wrap nn = q at *
  obtain ⟨t, ht⟩ : ∃ t, q % 200 = t := ⟨_, rfl⟩
  have ht1 : 0 ≤ t ∧ t < 200 := by omega
  rw [ht]
  have h2 : IntKind.i64.wrap t = t := by
    simp only [IntKind.wrap, IntKind.bits, IntKind.signed]; simp; omega
  rw [h2]
  have h3 : IntKind.i64.wrap ((u : Int) + t) = u + t := by
    simp only [IntKind.wrap, IntKind.bits, IntKind.signed]; simp; omega
  rw [h3]
  omega
def InPl (W : World) (r n : Nat) (X : Nat → OpY) (i : Value) (wr : World) : Prop :=
  ∃ (k : Nat) (room fuse : Int) (F : Nat) (Y : List (List UInt8)) (mb : Option (Nat × List (List UInt8))), k ≤ n ∧ i = .int .i64 k ∧ (0 ≤ room ∧ room < 2 ^ 62) ∧ RunOk W wr r room fuse k (tm X k) F Y mb
set_option maxHeartbeats 8000000 in
set_option maxRecDepth 100000 in
theorem walPlays_walk (H : Type) (enc : TypeId × Value → H) (W : World) (base : Nat) (v0 : Value) (d0 : DataW H) (p0 : List MemPlace) (h0 : DataW.Trod enc Try.prog W 0 (fun _ => true) true 73 v0 d0 p0) (o0 : Value.okWide Try.prog W .any base 73 v0) (hsz : (DataW.weightsEach Try.prog [73] [d0]).all (· ≤ reachBytes) = true) :
    Calls Try.prog 10 #[v0] W fun e w' => e = .returned (.bool true) ∧ Below W.heap.size W w' := by
  obtain ⟨a, n, cap, X, rfl, _, hn, hX⟩ := script_openY h0 o0 hsz
  have HX := Lib.hid hX
  clear h0 o0 hsz hX
  go_enter Try.func10, Try.ntmps10
  go_wp2_with fail
  refine (awake16 _).mono ?_
  rintro e w1 ⟨rfl, hb1⟩
  have HB1 := Lib.hid hb1
  have HFEW := Lib.hid (few38 w1 a n cap X fun i hi => by
    obtain ⟨b, off, ha, hbl, hop⟩ := HX.out i hi
    exact ⟨b, off, ha, (hb1.cell (p := ⟨b, off + i * 3 + 2, none⟩) hbl).trans hop.cells.2.2⟩)
  clear hb1
  go_wp2_with fail
  refine HFEW.out.mono ?_
  rintro e w2 ⟨bb, rfl, rfl, hbb⟩
  cases bb with
  | false =>
    clear hbb
    go_wp2_with fail
    refine (awake16 _).mono ?_
    rintro e w2 ⟨rfl, hb2⟩
    have HB2 := Lib.hid (HB1.out.trans (hb2.mono HB1.out.size))
    clear hb2
    go_wp2_with fail
    go_ret
    exact ⟨rfl, HB2.out⟩
  | true =>
    obtain ⟨hn201, htm⟩ := hbb rfl
    have HTMN := Lib.hid htm
    clear hbb htm
    go_wp2_with fail
    refine (new 1073741824 _ (by omega)).mono ?_
    rintro e w2 ⟨rfl, hd2, hb2, hs2⟩
    have hmx : max (1073741824 : Int) 0 = 1073741824 := by omega
    rw [hmx] at hd2
    have hb2' := HB1.out.trans (hb2.mono HB1.out.size)
    have hWs := HB1.out.size
    have hrd := ready_new hd2 (fun k hk => by rcases hk with rfl | rfl <;> omega) hb2'
    obtain ⟨w3, hw3⟩ : ∃ w3, (w2.alloc (.cells #[.int .i64 0, .slice none 0 0, .bool false] 64)).alloc (.cells #[.pointer (some ⟨w1.heap.size + 1, 0, none⟩), .pointer none, .pointer (some ⟨w2.heap.size, 0, none⟩), .pointer none] 66) = w3 := ⟨_, rfl⟩
    unfold docO runO at hrd
    rw [hw3] at hrd
    obtain ⟨r, hr⟩ : ∃ r, w2.heap.size + 1 = r := ⟨_, rfl⟩
    rw [hr] at hrd
    have HRD := Lib.hid hrd
    clear hd2 hb2 hs2 hmx hb2' hWs hrd
    go_wp2_with fail
    refine (open35 W w3 r 1073741824 (-1) 0 0 0 [] none 0 [] HRD.out none 0 0 [] (src_nil W) (by omega) (by omega)).mono ?_
    rintro e w4 ⟨rfl, fuse4, hok4, _⟩
    have HOK4 := Lib.hid hok4
    clear hok4 hw3 hr
    go_wp2_with fail
    go_loopw [24] (fun i wr => InPl W r n X i wr) (fun i _ => n - (intOf i).toNat)
    case atStart => exact ⟨0, 1073741824, fuse4, 0, [], none, Nat.zero_le _, rfl, ⟨by omega, by omega⟩, HOK4.out⟩
    case round =>
      clear HOK4 HRD HFEW HB1
      obtain ⟨k, room, fuse, F, Y, mb, hk, rfl, hroom, hok⟩ := hrel
      have HOKW := Lib.hid hok
      have HR := Lib.hid hroom
      clear hok hroom
      by_cases hlt : k < n
      · have HTM := Lib.hid (show tm X k ≤ 1048576 ∧ tm X (k + 1) ≤ 1048576 from ⟨Nat.le_trans (tm_mono X (by omega)) HTMN.out, Nat.le_trans (tm_mono X hlt) HTMN.out⟩)
        obtain ⟨b, off, ha, hbl, hop⟩ := HX.out k hlt
        subst ha
        obtain ⟨x0, x1, x2⟩ := hop.cells
        obtain ⟨_, _, _, hrch, hnn, hsrc⟩ := hop
        obtain ⟨kd, hkd⟩ : ∃ z, (X k).kind = z := ⟨_, rfl⟩
        obtain ⟨nn, hnne⟩ : ∃ z, (X k).n = z := ⟨_, rfl⟩
        obtain ⟨sa, hsa⟩ : ∃ z, (X k).a = z := ⟨_, rfl⟩
        obtain ⟨scap, hscap⟩ : ∃ z, (X k).cap = z := ⟨_, rfl⟩
        obtain ⟨ln, hln⟩ : ∃ z, (X k).l.length = z := ⟨_, rfl⟩
        rw [hkd] at x0
        rw [hnne] at x1 hnn
        rw [hsa, hscap, hln] at x2 hsrc
        rw [hln] at hrch
        have HLN := Lib.hid hln
        have HRCH := Lib.hid hrch
        have HNN := Lib.hid hnn
        have HSA := Lib.hid (show ∀ w', Below W.heap.size W w' → ∀ S, (∀ x, S x → W.heap.size ≤ x) → SrcAt w' S (.slice sa ln scap) (Lib.byteCells (X k).l) from fun w' hb S hS => src_later (hsrc S hS) hb)
        have HSR := Lib.hid (show ∀ w', Below W.heap.size W w' → SrcN w' 1 (.slice sa ln scap) ln (Lib.byteCells (X k).l) from fun w' hb => by
          have h1 := (src_srcN (src_later (hsrc (fun x => W.heap.size ≤ x) fun _ h => h) hb)).1
          rw [Lib.byteCells_length, hln] at h1
          exact h1)
        have hbw := HOKW.out.below
        rw [← hbw.cell (p := ⟨b, off + k * 3, none⟩) hbl] at x0
        rw [← hbw.cell (p := ⟨b, off + k * 3 + 1, none⟩) hbl] at x1
        rw [← hbw.cell (p := ⟨b, off + k * 3 + 2, none⟩) hbl] at x2
        obtain ⟨Bk, hBk⟩ : ∃ B, wr.heap.size = B := ⟨_, rfl⟩
        obtain ⟨w3, hw3⟩ : ∃ w3, wr.alloc (.cells #[.int .i64 kd, .int .i64 nn, .slice sa ln scap] 70) = w3 := ⟨_, rfl⟩
        have hb3 : Below wr.heap.size wr w3 := by rw [← hw3]; exact (Below.refl _ _).alloc (Nat.le_refl _) _
        have hbox : w3.heap[Bk]? = some (opO kd nn sa ln scap) := by rw [← hw3, ← hBk]; exact heap_alloc_new wr _
        obtain ⟨y0, y1, y2⟩ := op_cells hbox
        have HBW := Lib.hid hb3
        have HBOX := Lib.hid (And.intro hbox hBk)
        have HOK3 := Lib.hid (HOKW.out.later hb3)
        clear hkd hnne hsa hscap hln hrch hnn hsrc hb3 hbox hbl hbw
        by_cases h1 : kd = 1
        · subst h1
          have HCA := Lib.hid (call36A W w3 r room fuse k (tm X k) F Y mb HOK3.out nn sa ln scap (X k).l HLN.out HSR.out (by have := HRCH.out; unfold reachBytes at this; omega) HR.out (by omega) (by have := HTM.out; omega))
          go_wp2_with fail
          refine HCA.out.mono ?_
          rintro e w4 ⟨rfl, fuse4, F4, Y4, mb4, hok4, _⟩
          have HOK4 := Lib.hid (show RunOk W w4 r room fuse4 (k + 1) (tm X (k + 1)) F4 Y4 mb4 from hok4.mono (Nat.le_refl _) (by simp only [tm, HLN.out]; exact Nat.le_refl _))
          clear hok4 x0 x1 x2 y0 y1 y2
          obtain ⟨qo, hqo, hqo2⟩ := HOK4.out.may
          have hrl : r < w4.heap.size := by obtain ⟨_, _, _, _, _, h9, _⟩ := HOK4.out.disks; exact h9
          cases mb4 with
          | none =>
            obtain rfl : qo = none := by cases qo with | none => rfl | some q => cases hqo2
            obtain ⟨l9, p9, hl9, hp9, hs9⟩ := HOK4.out.same (by omega) (by have := HTM.out; omega)
            have HS9 := Lib.hid hs9
            clear hs9 hqo2
            go_wp2_with fail
            go_region_held3 (fun w' => w'.cell? ⟨r, 3, none⟩ = some (.pointer none) ∧ w'.cell? ⟨r, 1, none⟩ = some (.pointer (some ⟨l9, 0, none⟩)) ∧ w'.cell? ⟨r, 2, none⟩ = some (.pointer (some ⟨p9, 0, none⟩))) (first | exact ⟨hqo, hl9, hp9⟩ | exact hH9 | go_keep)
              (first
                | (go_at_call 37; refine (HS9.out _ (by first | exact (Below.refl _ _).drew | exact Below.refl _ _)).mono ?_; rintro e w9 ⟨rfl, hb9⟩; have hb9' : Below w4.heap.size w4 w9 := ((Below.refl w4.heap.size w4).drew).trans hb9; have HB9 := Lib.hid hb9'; have hH9 : w9.cell? ⟨r, 3, none⟩ = some (.pointer none) ∧ w9.cell? ⟨r, 1, none⟩ = some (.pointer (some ⟨l9, 0, none⟩)) ∧ w9.cell? ⟨r, 2, none⟩ = some (.pointer (some ⟨p9, 0, none⟩)) := ⟨(hb9'.cell (p := ⟨r, 3, none⟩) hrl).trans hqo, (hb9'.cell (p := ⟨r, 1, none⟩) hrl).trans hl9, (hb9'.cell (p := ⟨r, 2, none⟩) hrl).trans hp9⟩; clear hb9 hb9'))
            all_goals
              go_wp2_with fail
              go_roundw
              case rel => exact ⟨k + 1, _, _, _, _, none, hlt, by go_num, HR.out, HOK4.out.later HB9.out⟩
              case measure => simp [intOf]; omega
          | some mE =>
            obtain ⟨q9, rfl⟩ : ∃ q, qo = some q := by cases qo with | none => cases hqo2 | some q => exact ⟨q, rfl⟩
            go_wp2_with fail
            go_quiet (fail)
            go_wp2_with fail
            go_roundw
            case rel => exact ⟨k + 1, _, _, _, _, some mE, hlt, by go_num, HR.out, HOK4.out.later (below_dN w4 _)⟩
            case measure => simp [intOf]; omega
        have hb1 : (kd == 1) = false := by simp [h1]
        clear h1
        by_cases h2 : kd = 2
        · subst h2
          have HCA := Lib.hid (call36T W w3 r room fuse k (tm X k) F Y mb HOK3.out nn sa ln scap HR.out (by omega) (by have := HTM.out; omega))
          go_wp2_with fail
          refine HCA.out.mono ?_
          rintro e w4 ⟨rfl, fuse4, F4, Y4, mb4, hok4, _⟩
          have HOK4 := Lib.hid (show RunOk W w4 r room fuse4 (k + 1) (tm X (k + 1)) F4 Y4 mb4 from hok4.mono (by omega) (tm_mono X (by omega)))
          clear hok4 x0 x1 x2 y0 y1 y2
          obtain ⟨qo, hqo, hqo2⟩ := HOK4.out.may
          have hrl : r < w4.heap.size := by obtain ⟨_, _, _, _, _, h9, _⟩ := HOK4.out.disks; exact h9
          cases mb4 with
          | none =>
            obtain rfl : qo = none := by cases qo with | none => rfl | some q => cases hqo2
            obtain ⟨l9, p9, hl9, hp9, hs9⟩ := HOK4.out.same (by omega) (by have := HTM.out; omega)
            have HS9 := Lib.hid hs9
            clear hs9 hqo2
            go_wp2_with fail
            go_region_held3 (fun w' => w'.cell? ⟨r, 3, none⟩ = some (.pointer none) ∧ w'.cell? ⟨r, 1, none⟩ = some (.pointer (some ⟨l9, 0, none⟩)) ∧ w'.cell? ⟨r, 2, none⟩ = some (.pointer (some ⟨p9, 0, none⟩))) (first | exact ⟨hqo, hl9, hp9⟩ | exact hH9 | go_keep)
              (first
                | (go_at_call 37; refine (HS9.out _ (by first | exact (Below.refl _ _).drew | exact Below.refl _ _)).mono ?_; rintro e w9 ⟨rfl, hb9⟩; have hb9' : Below w4.heap.size w4 w9 := ((Below.refl w4.heap.size w4).drew).trans hb9; have HB9 := Lib.hid hb9'; have hH9 : w9.cell? ⟨r, 3, none⟩ = some (.pointer none) ∧ w9.cell? ⟨r, 1, none⟩ = some (.pointer (some ⟨l9, 0, none⟩)) ∧ w9.cell? ⟨r, 2, none⟩ = some (.pointer (some ⟨p9, 0, none⟩)) := ⟨(hb9'.cell (p := ⟨r, 3, none⟩) hrl).trans hqo, (hb9'.cell (p := ⟨r, 1, none⟩) hrl).trans hl9, (hb9'.cell (p := ⟨r, 2, none⟩) hrl).trans hp9⟩; clear hb9 hb9'))
            all_goals
              go_wp2_with fail
              go_roundw
              case rel => exact ⟨k + 1, _, _, _, _, none, hlt, by go_num, HR.out, HOK4.out.later HB9.out⟩
              case measure => simp [intOf]; omega
          | some mE =>
            obtain ⟨q9, rfl⟩ : ∃ q, qo = some q := by cases qo with | none => cases hqo2 | some q => exact ⟨q, rfl⟩
            go_wp2_with fail
            go_quiet (fail)
            go_wp2_with fail
            go_roundw
            case rel => exact ⟨k + 1, _, _, _, _, some mE, hlt, by go_num, HR.out, HOK4.out.later (below_dN w4 _)⟩
            case measure => simp [intOf]; omega
        have hb2 : (kd == 2) = false := by simp [h2]
        clear h2
        by_cases h3 : kd = 3
        · subst h3
          obtain ⟨S3, d3, m3, L3, hd0, hrl3, hSr, hSlt, hdk, hfk, _, hall⟩ := HOKW.out.disksB
          have hbd3 : Below wr.heap.size wr w3.drew := HBW.out.trans (((Below.refl w3.heap.size w3).drew).mono HBW.out.size)
          have hd0' : w3.cell? ⟨r, 0, none⟩ = some (.pointer (some ⟨d3, 0, none⟩)) := (HBW.out.cell (p := ⟨r, 0, none⟩) hrl3).trans hd0
          have HBD3 := Lib.hid hbd3
          have HDK := Lib.hid (hdk.later hbd3)
          have HALL := Lib.hid hall
          have HFK := Lib.hid hfk
          have HNE := Lib.hid (show r ≠ d3 ∧ Bk ≠ d3 from ⟨fun e => hSr (e ▸ hdk.here.1), fun e => by have := hSlt d3 hdk.here.1; rw [HBOX.out.2] at this; omega⟩)
          clear hdk hall hfk hd0 hbd3 hSr hSlt
          go_wp2_with fail
          go_region_held3 (fun w' => w'.cell? ⟨r, 0, none⟩ = some (.pointer (some ⟨d3, 0, none⟩)) ∧ w'.cell? ⟨Bk, 1, none⟩ = some (.int .i64 nn)) (first | exact ⟨hd0', y1⟩ | exact hH4 | go_keep)
            (first
              | (go_at_call 26; refine (setFuse w3.drew S3 d3 m3 L3 room fuse mb.isSome _ HDK.out).mono ?_; rintro e w4 ⟨rfl, ho4, hd4⟩; have hok4 := HALL.out w4 room _ ((Turns.of_below (S := S3) HBD3.out).trans (ho4.turns HDK.out.here.1) fun x hx => .inl hx) hd4 (by unfold FuseOk; simp only [IntKind.wrap, IntKind.bits, IntKind.signed]; simp; omega); have HOK4 := Lib.hid (hok4.mono (K' := k + 1) (B' := tm X (k + 1)) (by omega) (tm_mono X (by omega))); have hH4 : w4.cell? ⟨r, 0, none⟩ = some (.pointer (some ⟨d3, 0, none⟩)) ∧ w4.cell? ⟨Bk, 1, none⟩ = some (.int .i64 nn) := ho4.two HNE.out.1 HNE.out.2 hd0' y1; clear hok4 ho4 hd4))
          all_goals
            clear x0 x1 x2 y0 y1 y2 hd0'
            obtain ⟨qo, hqo, hqo2⟩ := HOK4.out.may
            have hrl : r < w4.heap.size := by obtain ⟨_, _, _, _, _, h9, _⟩ := HOK4.out.disks; exact h9
            cases mb with
            | none =>
              obtain rfl : qo = none := by cases qo with | none => rfl | some q => cases hqo2
              obtain ⟨l9, p9, hl9, hp9, hs9⟩ := HOK4.out.same (by omega) (by have := HTM.out; omega)
              have HS9 := Lib.hid hs9
              clear hs9 hqo2
              go_wp2_with fail
              go_region_held3 (fun w' => w'.cell? ⟨r, 3, none⟩ = some (.pointer none) ∧ w'.cell? ⟨r, 1, none⟩ = some (.pointer (some ⟨l9, 0, none⟩)) ∧ w'.cell? ⟨r, 2, none⟩ = some (.pointer (some ⟨p9, 0, none⟩))) (first | exact ⟨hqo, hl9, hp9⟩ | exact hH9 | go_keep)
                (first
                  | (go_at_call 37; refine (HS9.out _ (by first | exact (Below.refl _ _).drew | exact Below.refl _ _)).mono ?_; rintro e w9 ⟨rfl, hb9⟩; have hb9' : Below w4.heap.size w4 w9 := ((Below.refl w4.heap.size w4).drew).trans hb9; have HB9 := Lib.hid hb9'; have hH9 : w9.cell? ⟨r, 3, none⟩ = some (.pointer none) ∧ w9.cell? ⟨r, 1, none⟩ = some (.pointer (some ⟨l9, 0, none⟩)) ∧ w9.cell? ⟨r, 2, none⟩ = some (.pointer (some ⟨p9, 0, none⟩)) := ⟨(hb9'.cell (p := ⟨r, 3, none⟩) hrl).trans hqo, (hb9'.cell (p := ⟨r, 1, none⟩) hrl).trans hl9, (hb9'.cell (p := ⟨r, 2, none⟩) hrl).trans hp9⟩; clear hb9 hb9'))
              all_goals
                go_wp2_with fail
                go_roundw
                case rel => exact ⟨k + 1, _, _, _, _, none, hlt, by go_num, HR.out, HOK4.out.later HB9.out⟩
                case measure => simp [intOf]; omega
            | some mE =>
              obtain ⟨q9, rfl⟩ : ∃ q, qo = some q := by cases qo with | none => cases hqo2 | some q => exact ⟨q, rfl⟩
              go_wp2_with fail
              go_quiet (fail)
              go_wp2_with fail
              go_roundw
              case rel => exact ⟨k + 1, _, _, _, _, some mE, hlt, by go_num, HR.out, HOK4.out.later (below_dN w4 _)⟩
              case measure => simp [intOf]; omega
        have hb3 : (kd == 3) = false := by simp [h3]
        clear h3
        by_cases h4 : kd = 4
        · subst h4
          obtain ⟨d4, hd0, hcall4⟩ := HOKW.out.restartB (w1 := w3.drew) (HBW.out.trans (((Below.refl w3.heap.size w3).drew).mono HBW.out.size)) (by omega) (by have := HTM.out; omega) (.slice sa ln scap) (X k).l HSA.out
          have hd0' : w3.cell? ⟨r, 0, none⟩ = some (.pointer (some ⟨d4, 0, none⟩)) := hd0
          have HCALL4 := Lib.hid hcall4
          clear hd0 hcall4
          go_wp2_with fail
          go_region_held3 (fun w' => w'.cell? ⟨r, 0, none⟩ = some (.pointer (some ⟨d4, 0, none⟩)) ∧ w'.cell? ⟨Bk, 2, none⟩ = some (.slice sa ln scap)) (first | exact ⟨hd0', y2⟩ | exact hH4 | go_keep)
            (first
              | (go_at_call 23; refine HCALL4.out.mono ?_; rintro e w4 ⟨rfl, ⟨F4, Y4, hrd4⟩, hkr4, hkeep4⟩; have HRD4 := Lib.hid hrd4; have hH4 : w4.cell? ⟨r, 0, none⟩ = some (.pointer (some ⟨d4, 0, none⟩)) ∧ w4.cell? ⟨Bk, 2, none⟩ = some (.slice sa ln scap) := ⟨(World.cell?_of_block hkr4).trans hd0', (World.cell?_of_block (hkeep4 Bk (by rw [HBOX.out.2]; exact Nat.le_refl _) (blk_lt HBOX.out.1))).trans y2⟩; clear hrd4 hkr4 hkeep4))
          all_goals
            obtain ⟨_, z2⟩ := hH4
            go_wp2_with fail
            refine (open35 W w4 r room (-1) k (tm X k) F Y mb F4 Y4 HRD4.out sa ln scap (X k).l HSA.out (by omega) (by have := HTM.out; omega)).mono ?_
            rintro e w5 ⟨rfl, fuse5, hok5, _⟩
            obtain ⟨mb5, hmb⟩ : ∃ mb : Option (Nat × List (List UInt8)), none = mb := ⟨_, rfl⟩
            rw [hmb] at hok5
            have HOK5 := Lib.hid (show RunOk W w5 r room fuse5 (k + 1) (tm X (k + 1)) F4 Y4 mb5 from hok5.mono (by omega) (tm_mono X (by omega)))
            clear x0 x1 x2 y0 y1 y2 hok5 hmb hd0' z2
            obtain ⟨qo, hqo, hqo2⟩ := HOK5.out.may
            have hrl : r < w5.heap.size := by obtain ⟨_, _, _, _, _, h9, _⟩ := HOK5.out.disks; exact h9
            cases mb5 with
            | none =>
              obtain rfl : qo = none := by cases qo with | none => rfl | some q => cases hqo2
              obtain ⟨l9, p9, hl9, hp9, hs9⟩ := HOK5.out.same (by omega) (by have := HTM.out; omega)
              have HS9 := Lib.hid hs9
              clear hs9 hqo2
              go_wp2_with fail
              go_region_held3 (fun w' => w'.cell? ⟨r, 3, none⟩ = some (.pointer none) ∧ w'.cell? ⟨r, 1, none⟩ = some (.pointer (some ⟨l9, 0, none⟩)) ∧ w'.cell? ⟨r, 2, none⟩ = some (.pointer (some ⟨p9, 0, none⟩))) (first | exact ⟨hqo, hl9, hp9⟩ | exact hH9 | go_keep)
                (first
                  | (go_at_call 37; refine (HS9.out _ (by first | exact (Below.refl _ _).drew | exact Below.refl _ _)).mono ?_; rintro e w9 ⟨rfl, hb9⟩; have hb9' : Below w5.heap.size w5 w9 := ((Below.refl w5.heap.size w5).drew).trans hb9; have HB9 := Lib.hid hb9'; have hH9 : w9.cell? ⟨r, 3, none⟩ = some (.pointer none) ∧ w9.cell? ⟨r, 1, none⟩ = some (.pointer (some ⟨l9, 0, none⟩)) ∧ w9.cell? ⟨r, 2, none⟩ = some (.pointer (some ⟨p9, 0, none⟩)) := ⟨(hb9'.cell (p := ⟨r, 3, none⟩) hrl).trans hqo, (hb9'.cell (p := ⟨r, 1, none⟩) hrl).trans hl9, (hb9'.cell (p := ⟨r, 2, none⟩) hrl).trans hp9⟩; clear hb9 hb9'))
              all_goals
                go_wp2_with fail
                go_roundw
                case rel => exact ⟨k + 1, _, _, _, _, none, hlt, by go_num, HR.out, HOK5.out.later HB9.out⟩
                case measure => simp [intOf]; omega
            | some mE =>
              obtain ⟨q9, rfl⟩ : ∃ q, qo = some q := by cases qo with | none => cases hqo2 | some q => exact ⟨q, rfl⟩
              go_wp2_with fail
              go_quiet (fail)
              go_wp2_with fail
              go_roundw
              case rel => exact ⟨k + 1, _, _, _, _, some mE, hlt, by go_num, HR.out, HOK5.out.later (below_dN w5 _)⟩
              case measure => simp [intOf]; omega
        have hb4 : (kd == 4) = false := by simp [h4]
        clear h4
        by_cases h5 : kd = 5
        · subst h5
          cases mb with
          | some m5 =>
            obtain ⟨d5, hc5, hcall5⟩ := HOK3.out.isDown
            have HC5 := Lib.hid (show Calls Try.prog 28 #[.pointer (some ⟨d5, 0, none⟩)] w3 fun e w' => e = .returned (.bool true) ∧ w' = w3 from hcall5)
            clear hcall5
            go_wp2_with fail
            refine HC5.out.mono ?_
            rintro e w4 ⟨rfl, hw4⟩
            obtain rfl := hw4.symm
            obtain ⟨mb, hmb⟩ : ∃ mb, some m5 = mb := ⟨_, rfl⟩
            rw [hmb] at HOK3
            have HOK4 := Lib.hid (show RunOk W w3 r room fuse (k + 1) (tm X (k + 1)) F Y mb from HOK3.out.mono (by omega) (tm_mono X (by omega)))
            clear hmb
            obtain ⟨qo, hqo, hqo2⟩ := HOK4.out.may
            have hrl : r < w3.heap.size := by obtain ⟨_, _, _, _, _, h9, _⟩ := HOK4.out.disks; exact h9
            cases mb with
            | none =>
              obtain rfl : qo = none := by cases qo with | none => rfl | some q => cases hqo2
              obtain ⟨l9, p9, hl9, hp9, hs9⟩ := HOK4.out.same (by omega) (by have := HTM.out; omega)
              have HS9 := Lib.hid hs9
              clear hs9 hqo2
              go_wp2_with fail
              go_region_held3 (fun w' => w'.cell? ⟨r, 3, none⟩ = some (.pointer none) ∧ w'.cell? ⟨r, 1, none⟩ = some (.pointer (some ⟨l9, 0, none⟩)) ∧ w'.cell? ⟨r, 2, none⟩ = some (.pointer (some ⟨p9, 0, none⟩))) (first | exact ⟨hqo, hl9, hp9⟩ | exact hH9 | go_keep)
                (first
                  | (go_at_call 37; refine (HS9.out _ (by first | exact (Below.refl _ _).drew | exact Below.refl _ _)).mono ?_; rintro e w9 ⟨rfl, hb9⟩; have hb9' : Below w3.heap.size w3 w9 := ((Below.refl w3.heap.size w3).drew).trans hb9; have HB9 := Lib.hid hb9'; have hH9 : w9.cell? ⟨r, 3, none⟩ = some (.pointer none) ∧ w9.cell? ⟨r, 1, none⟩ = some (.pointer (some ⟨l9, 0, none⟩)) ∧ w9.cell? ⟨r, 2, none⟩ = some (.pointer (some ⟨p9, 0, none⟩)) := ⟨(hb9'.cell (p := ⟨r, 3, none⟩) hrl).trans hqo, (hb9'.cell (p := ⟨r, 1, none⟩) hrl).trans hl9, (hb9'.cell (p := ⟨r, 2, none⟩) hrl).trans hp9⟩; clear hb9 hb9'))
              all_goals
                go_wp2_with fail
                go_roundw
                case rel => exact ⟨k + 1, _, _, _, _, none, hlt, by go_num, HR.out, HOK4.out.later HB9.out⟩
                case measure => simp [intOf]; omega
            | some mE =>
              obtain ⟨q9, rfl⟩ : ∃ q, qo = some q := by cases qo with | none => cases hqo2 | some q => exact ⟨q, rfl⟩
              go_wp2_with fail
              go_quiet (fail)
              go_wp2_with fail
              go_roundw
              case rel => exact ⟨k + 1, _, _, _, _, some mE, hlt, by go_num, HR.out, HOK4.out.later (below_dN w3 _)⟩
              case measure => simp [intOf]; omega
          | none =>
            obtain ⟨d5, hc5, hcall5⟩ := HOK3.out.isDown
            have HC5 := Lib.hid (show Calls Try.prog 28 #[.pointer (some ⟨d5, 0, none⟩)] w3 fun e w' => e = .returned (.bool false) ∧ w' = w3 from hcall5)
            obtain ⟨q5, hq5, hq52⟩ := HOK3.out.may
            obtain rfl : q5 = none := by cases q5 with | none => rfl | some q => cases hq52
            have HOP := Lib.hid (open35 W w3 r room fuse k (tm X k) F Y none F Y HOK3.out.ready none 0 0 [] (src_nil W) (by omega) (by have := HTM.out; omega))
            clear hcall5 hq52
            go_wp2_with fail
            refine HC5.out.mono ?_
            rintro e w4 ⟨rfl, hw4⟩
            obtain rfl := hw4.symm
            go_wp2_with fail
            refine HOP.out.mono ?_
            rintro e w4 ⟨rfl, fuse4, hok4, _⟩
            obtain ⟨mb, hmb⟩ : ∃ mb : Option (Nat × List (List UInt8)), none = mb := ⟨_, rfl⟩
            rw [hmb] at hok4
            have HOK4 := Lib.hid (show RunOk W w4 r room fuse4 (k + 1) (tm X (k + 1)) F Y mb from hok4.mono (by omega) (tm_mono X (by omega)))
            clear x0 x1 x2 y0 y1 y2 hok4 hmb hq5 hc5
            obtain ⟨qo, hqo, hqo2⟩ := HOK4.out.may
            have hrl : r < w4.heap.size := by obtain ⟨_, _, _, _, _, h9, _⟩ := HOK4.out.disks; exact h9
            cases mb with
            | none =>
              obtain rfl : qo = none := by cases qo with | none => rfl | some q => cases hqo2
              obtain ⟨l9, p9, hl9, hp9, hs9⟩ := HOK4.out.same (by omega) (by have := HTM.out; omega)
              have HS9 := Lib.hid hs9
              clear hs9 hqo2
              go_wp2_with fail
              go_region_held3 (fun w' => w'.cell? ⟨r, 3, none⟩ = some (.pointer none) ∧ w'.cell? ⟨r, 1, none⟩ = some (.pointer (some ⟨l9, 0, none⟩)) ∧ w'.cell? ⟨r, 2, none⟩ = some (.pointer (some ⟨p9, 0, none⟩))) (first | exact ⟨hqo, hl9, hp9⟩ | exact hH9 | go_keep)
                (first
                  | (go_at_call 37; refine (HS9.out _ (by first | exact (Below.refl _ _).drew | exact Below.refl _ _)).mono ?_; rintro e w9 ⟨rfl, hb9⟩; have hb9' : Below w4.heap.size w4 w9 := ((Below.refl w4.heap.size w4).drew).trans hb9; have HB9 := Lib.hid hb9'; have hH9 : w9.cell? ⟨r, 3, none⟩ = some (.pointer none) ∧ w9.cell? ⟨r, 1, none⟩ = some (.pointer (some ⟨l9, 0, none⟩)) ∧ w9.cell? ⟨r, 2, none⟩ = some (.pointer (some ⟨p9, 0, none⟩)) := ⟨(hb9'.cell (p := ⟨r, 3, none⟩) hrl).trans hqo, (hb9'.cell (p := ⟨r, 1, none⟩) hrl).trans hl9, (hb9'.cell (p := ⟨r, 2, none⟩) hrl).trans hp9⟩; clear hb9 hb9'))
              all_goals
                go_wp2_with fail
                go_roundw
                case rel => exact ⟨k + 1, _, _, _, _, none, hlt, by go_num, HR.out, HOK4.out.later HB9.out⟩
                case measure => simp [intOf]; omega
            | some mE =>
              obtain ⟨q9, rfl⟩ : ∃ q, qo = some q := by cases qo with | none => cases hqo2 | some q => exact ⟨q, rfl⟩
              go_wp2_with fail
              go_quiet (fail)
              go_wp2_with fail
              go_roundw
              case rel => exact ⟨k + 1, _, _, _, _, some mE, hlt, by go_num, HR.out, HOK4.out.later (below_dN w4 _)⟩
              case measure => simp [intOf]; omega
        have hb5 : (kd == 5) = false := by simp [h5]
        clear h5
        by_cases h6 : kd = 6
        · subst h6
          obtain ⟨S6, d6, m6, L6, hd0, hrl6, hSr, hSlt, hdk, hfk, hln6, hall⟩ := HOKW.out.disksB
          have hlen6 := hln6 (by omega) (by have := HTM.out; omega)
          have hbd3 : Below wr.heap.size wr w3.drew := HBW.out.trans (((Below.refl w3.heap.size w3).drew).mono HBW.out.size)
          have hd0' : w3.cell? ⟨r, 0, none⟩ = some (.pointer (some ⟨d6, 0, none⟩)) := (HBW.out.cell (p := ⟨r, 0, none⟩) hrl6).trans hd0
          have HBD3 := Lib.hid hbd3
          have HDK := Lib.hid (hdk.later HBW.out)
          have HALL := Lib.hid hall
          have HFK := Lib.hid hfk
          have HLEN := Lib.hid hlen6
          have HNE := Lib.hid (show r ≠ d6 ∧ Bk ≠ d6 from ⟨fun e => hSr (e ▸ hdk.here.1), fun e => by have := hSlt d6 hdk.here.1; rw [HBOX.out.2] at this; omega⟩)
          have hrl3 : r < w3.heap.size := Nat.lt_of_lt_of_le hrl6 HBW.out.size
          have hBkl : Bk < w3.heap.size := blk_lt HBOX.out.1
          clear hdk hall hfk hln6 hlen6 hd0 hbd3 hSr hSlt
          go_wp2_with fail
          go_region_held3 (fun w' => w'.cell? ⟨r, 0, none⟩ = some (.pointer (some ⟨d6, 0, none⟩)) ∧ w'.cell? ⟨Bk, 1, none⟩ = some (.int .i64 nn)) (first | exact ⟨hd0', y1⟩ | exact hH4 | exact hH5 | go_keep)
            (first
              | (go_at_call 15; refine (used _ S6 d6 m6 L6 room fuse mb.isSome (by first | exact HDK.out.later ((Below.refl w3.heap.size w3).drew) | exact HDK.out) (by have := HLEN.out; omega)).mono ?_; rintro e w4 ⟨rfl, hb4⟩; have hb4' : Below w3.heap.size w3 w4 := ((Below.refl w3.heap.size w3).drew).trans hb4; have HB4 := Lib.hid hb4'; have hH4 : w4.cell? ⟨r, 0, none⟩ = some (.pointer (some ⟨d6, 0, none⟩)) ∧ w4.cell? ⟨Bk, 1, none⟩ = some (.int .i64 nn) := ⟨(hb4'.cell (p := ⟨r, 0, none⟩) hrl3).trans hd0', (hb4'.cell (p := ⟨Bk, 1, none⟩) hBkl).trans y1⟩; obtain ⟨u6, hu6⟩ : ∃ u, lens L6 = u := ⟨_, rfl⟩; have hu6b : u6 ≤ 1000000000000 := hu6 ▸ HLEN.out; rw [hu6]; clear hb4 hb4')
              | (go_at_call 32; refine (setRoom w4 S6 d6 m6 L6 room fuse mb.isSome _ (HDK.out.later HB4.out)).mono ?_; rintro e w5 ⟨rfl, ho5, hd5⟩; have hok5 := HALL.out w5 _ fuse ((Turns.of_below (S := S6) (HBW.out.trans (HB4.out.mono HBW.out.size))).trans (ho5.turns HDK.out.here.1) fun x hx => .inl hx) hd5 HFK.out; obtain ⟨room5, hroom5, hok5'⟩ : ∃ z : Int, (0 ≤ z ∧ z < 2 ^ 62) ∧ RunOk W w5 r z fuse k (tm X k) F Y mb := ⟨_, room_bd u6 hu6b nn, hok5⟩; have HR5 := Lib.hid hroom5; have HOK5 := Lib.hid (hok5'.mono (K' := k + 1) (B' := tm X (k + 1)) (by omega) (tm_mono X (by omega))); have hH5 : w5.cell? ⟨r, 0, none⟩ = some (.pointer (some ⟨d6, 0, none⟩)) ∧ w5.cell? ⟨Bk, 1, none⟩ = some (.int .i64 nn) := ho5.two HNE.out.1 HNE.out.2 hH4.1 hH4.2; clear hok5 hok5' hroom5 ho5 hd5))
          all_goals
            clear x0 x1 x2 y0 y1 y2 hd0'
            obtain ⟨qo, hqo, hqo2⟩ := HOK5.out.may
            have hrl : r < w5.heap.size := by obtain ⟨_, _, _, _, _, h9, _⟩ := HOK5.out.disks; exact h9
            cases mb with
            | none =>
              obtain rfl : qo = none := by cases qo with | none => rfl | some q => cases hqo2
              obtain ⟨l9, p9, hl9, hp9, hs9⟩ := HOK5.out.same (by omega) (by have := HTM.out; omega)
              have HS9 := Lib.hid hs9
              clear hs9 hqo2
              go_wp2_with fail
              go_region_held3 (fun w' => w'.cell? ⟨r, 3, none⟩ = some (.pointer none) ∧ w'.cell? ⟨r, 1, none⟩ = some (.pointer (some ⟨l9, 0, none⟩)) ∧ w'.cell? ⟨r, 2, none⟩ = some (.pointer (some ⟨p9, 0, none⟩))) (first | exact ⟨hqo, hl9, hp9⟩ | exact hH9 | go_keep)
                (first
                  | (go_at_call 37; refine (HS9.out _ (by first | exact (Below.refl _ _).drew | exact Below.refl _ _)).mono ?_; rintro e w9 ⟨rfl, hb9⟩; have hb9' : Below w5.heap.size w5 w9 := ((Below.refl w5.heap.size w5).drew).trans hb9; have HB9 := Lib.hid hb9'; have hH9 : w9.cell? ⟨r, 3, none⟩ = some (.pointer none) ∧ w9.cell? ⟨r, 1, none⟩ = some (.pointer (some ⟨l9, 0, none⟩)) ∧ w9.cell? ⟨r, 2, none⟩ = some (.pointer (some ⟨p9, 0, none⟩)) := ⟨(hb9'.cell (p := ⟨r, 3, none⟩) hrl).trans hqo, (hb9'.cell (p := ⟨r, 1, none⟩) hrl).trans hl9, (hb9'.cell (p := ⟨r, 2, none⟩) hrl).trans hp9⟩; clear hb9 hb9'))
              all_goals
                go_wp2_with fail
                go_roundw
                case rel => exact ⟨k + 1, _, _, _, _, none, hlt, by go_num, HR5.out, HOK5.out.later HB9.out⟩
                case measure => simp [intOf]; omega
            | some mE =>
              obtain ⟨q9, rfl⟩ : ∃ q, qo = some q := by cases qo with | none => cases hqo2 | some q => exact ⟨q, rfl⟩
              go_wp2_with fail
              go_quiet (fail)
              go_wp2_with fail
              go_roundw
              case rel => exact ⟨k + 1, _, _, _, _, some mE, hlt, by go_num, HR5.out, HOK5.out.later (below_dN w5 _)⟩
              case measure => simp [intOf]; omega
        have hb6 : (kd == 6) = false := by simp [h6]
        clear h6
        have HOK4 := Lib.hid (show RunOk W w3 r room fuse (k + 1) (tm X (k + 1)) F Y mb from HOK3.out.mono (by omega) (tm_mono X (by omega)))
        obtain ⟨qo, hqo, hqo2⟩ := HOK4.out.may
        have hrl : r < w3.heap.size := by obtain ⟨_, _, _, _, _, h9, _⟩ := HOK4.out.disks; exact h9
        cases mb with
        | none =>
          obtain rfl : qo = none := by cases qo with | none => rfl | some q => cases hqo2
          obtain ⟨l9, p9, hl9, hp9, hs9⟩ := HOK4.out.same (by omega) (by have := HTM.out; omega)
          have HS9 := Lib.hid hs9
          clear hs9 hqo2
          go_wp2_with fail
          go_region_held3 (fun w' => w'.cell? ⟨r, 3, none⟩ = some (.pointer none) ∧ w'.cell? ⟨r, 1, none⟩ = some (.pointer (some ⟨l9, 0, none⟩)) ∧ w'.cell? ⟨r, 2, none⟩ = some (.pointer (some ⟨p9, 0, none⟩))) (first | exact ⟨hqo, hl9, hp9⟩ | exact hH9 | go_keep)
            (first
              | (go_at_call 37; refine (HS9.out _ (by first | exact (Below.refl _ _).drew | exact Below.refl _ _)).mono ?_; rintro e w9 ⟨rfl, hb9⟩; have hb9' : Below w3.heap.size w3 w9 := ((Below.refl w3.heap.size w3).drew).trans hb9; have HB9 := Lib.hid hb9'; have hH9 : w9.cell? ⟨r, 3, none⟩ = some (.pointer none) ∧ w9.cell? ⟨r, 1, none⟩ = some (.pointer (some ⟨l9, 0, none⟩)) ∧ w9.cell? ⟨r, 2, none⟩ = some (.pointer (some ⟨p9, 0, none⟩)) := ⟨(hb9'.cell (p := ⟨r, 3, none⟩) hrl).trans hqo, (hb9'.cell (p := ⟨r, 1, none⟩) hrl).trans hl9, (hb9'.cell (p := ⟨r, 2, none⟩) hrl).trans hp9⟩; clear hb9 hb9'))
          all_goals
            go_wp2_with fail
            go_roundw
            case rel => exact ⟨k + 1, _, _, _, _, none, hlt, by go_num, HR.out, HOK4.out.later HB9.out⟩
            case measure => simp [intOf]; omega
        | some mE =>
          obtain ⟨q9, rfl⟩ : ∃ q, qo = some q := by cases qo with | none => cases hqo2 | some q => exact ⟨q, rfl⟩
          go_wp2_with fail
          go_quiet (fail)
          go_wp2_with fail
          go_roundw
          case rel => exact ⟨k + 1, _, _, _, _, some mE, hlt, by go_num, HR.out, HOK4.out.later (below_dN w3 _)⟩
          case measure => simp [intOf]; omega
      · obtain rfl : n = k := by omega
        go_wp2_with fail
        go_ret
        exact ⟨rfl, HOKW.out.below⟩
end Go.Proofs.Ytjkgcpbgacdgaaa
