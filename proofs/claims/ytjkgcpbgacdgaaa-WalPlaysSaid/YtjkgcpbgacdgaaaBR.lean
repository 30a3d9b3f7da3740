/- Open, on any disk whose log is whole up to a torn end. Conditions: the sizes. -/
import Derived.Test.YtjkgcpbgacdgaaaBO
namespace Go.Proofs.Ytjkgcpbgacdgaaa
open Go.RowKit
theorem mark_bytes : markL = Lib.byteCells [119, 97, 108, 49] := rfl
theorem contL_head (F : Nat) (Y : List (List Value)) (t : List Value) : (contL F (Y.map nilv) ++ t).take 4 = markL ∧ ((contL F (Y.map nilv) ++ t).drop 4).take 8 = numL F 8 ∧ 12 ≤ (contL F (Y.map nilv) ++ t).length ∧ (contL F (Y.map nilv) ++ t).drop 12 = Y.flatMap frameL ++ t := by
  have h := contL_drop F Y t 0
  have h0 : (contL F ((Y.take 0).map nilv)).length = 12 := by simp [contL, markL, numL_len]
  rw [h0] at h
  have e : contL F (Y.map nilv) ++ t = markL ++ (numL F 8 ++ ((Y.map nilv).flatMap (fun x => frameL x.2) ++ t)) := by simp [contL, List.append_assoc]
  refine ⟨?_, ?_, ?_, h⟩
  · rw [e]; rfl
  · rw [e, show (4 : Nat) = markL.length from rfl, List.drop_left]
    have h8 : (8 : Nat) = (numL (F : Int) 8).length := (numL_len _ _).symm
    conv => lhs; arg 1; rw [h8]
    rw [List.take_left]
  · rw [e]; simp [markL, numL_len]
theorem ch_ok {L : List Ent} {fuse : Int} {s : ByteArray} (h : chE L fuse false s = 0 ∨ chE L fuse false s = 6) (hf : -1 ≤ fuse) (hf2 : fuse < 2 ^ 63) : chD L fuse false s = false ∧ -1 ≤ chF L fuse false s ∧ chF L fuse false s < 2 ^ 63 := by
  unfold chE at h
  unfold chD chF
  by_cases h0 : (getE L false s).2 = 0
  · rw [if_pos h0] at h
    rw [if_pos h0, if_pos h0]
    unfold opE at h
    unfold opD opF
    by_cases hz : fuse = 0
    · rw [if_pos hz] at h; omega
    · rw [if_neg hz, if_neg hz]; refine ⟨rfl, ?_⟩; omega
  · rw [if_neg h0, if_neg h0]
    exact ⟨rfl, hf, hf2⟩
theorem bytes_rem {L : List Ent} (h : Bytes L) (fuse : Int) (down : Bool) (s : ByteArray) : Bytes (remL L fuse down s) := fun e he => by
  unfold remL at he
  split at he
  · exact h e (List.mem_filter.1 he).1
  · exact h e he
theorem cut_ok {L : List Ent} {fuse n : Int} {s : ByteArray} (h : cutE L fuse false s n = 0) (hf : -1 ≤ fuse) (hf2 : fuse < 2 ^ 63) : cutD L fuse false s n = false ∧ -1 ≤ cutF L fuse false s n ∧ cutF L fuse false s n < 2 ^ 63 := by
  unfold cutE at h
  unfold cutD cutF
  split at h
  · omega
  · rename_i hn
    rw [if_neg hn, if_neg hn]
    exact ch_ok (.inl h) hf hf2
theorem OpenSays.of {L : List Ent} {fuse : Int} {t : List Value} {z : Nat} {L' L2 : List Ent} {fuse' f1 f2 : Int} {down' d2 : Bool} {c1 c2 er : Int} (hc : c1 = 0 ∨ c1 = 6) (h1 : chE L fuse false nNew = c1) (h2 : chF L fuse false nNew = f1) (h3 : chD L fuse false nNew = false) (hl : look L nWal ≠ none)
    (ha : t = [] ∧ L2 = remL L fuse false nNew ∧ f2 = f1 ∧ d2 = false ∧ c2 = 0 ∨ t ≠ [] ∧ L2 = cutL (remL L fuse false nNew) f1 false nWal z ∧ f2 = cutF (remL L fuse false nNew) f1 false nWal z ∧ d2 = cutD (remL L fuse false nNew) f1 false nWal z ∧ c2 = cutE (remL L fuse false nNew) f1 false nWal z)
    (hb : c2 ≠ 0 ∧ er = c2 ∧ L' = L2 ∧ fuse' = f2 ∧ down' = d2 ∨ c2 = 0 ∧ er = chE L2 f2 d2 nWal ∧ L' = syncL L2 f2 d2 nWal ∧ fuse' = chF L2 f2 d2 nWal ∧ down' = chD L2 f2 d2 nWal) : OpenSays L fuse t z L' fuse' down' er := by
  refine .inr (.inr ⟨by rw [h1]; exact hc, hl, L2, f2, d2, c2, ?_, hb⟩)
  rw [h2, h3]
  exact ha
theorem SrcN.one {w : World} {size m : Nat} {v : Value} {news : List Value} (h : SrcN w size v m news) : ∀ u ∈ news, u.oneCell' = true := by
  obtain ⟨hl, ⟨_, rfl⟩ | ⟨_, _, _, _, h2⟩⟩ := h
  · have : news = [] := List.eq_nil_of_length_eq_zero (by simpa using hl)
    subst this
    exact fun u hu => nomatch hu
  · exact h2
theorem Wal.firsted {N : Nat → Prop} {W w : World} {S T : Nat → Prop} {d m : Nat} {L : List Ent} {room fuse : Int} {down : Bool} {l : Nat} {first : Int} {v : Value} {X : List (Value × List Value)} {size : Int} {over : Bool} (h : Wal N W w S T d m L room fuse down l first v X size over) (z : Int) :
    Wal N W (w.setCell ⟨l, 1, none⟩ (.int .i64 z)) S T d m L room fuse down l z v X size over := by
  have hsz : (w.setCell ⟨l, 1, none⟩ (.int .i64 z)).heap.size = w.heap.size := by simp
  refine ⟨disk_log h.disk h.not, ⟨log_set1 h.log.blk, row_same h.log.row fun g hg => log_other (h.log.mine g (.inl hg)).2.1, fun x hx => ⟨(h.log.ent x hx).1.same fun g hg => log_other (h.log.mine g (.inr ⟨x, hx, hg⟩)).2.1, (h.log.ent x hx).2⟩, h.log.here, fun g hg => by rw [hsz]; exact h.log.mine g hg, h.log.sep⟩, h.apart, fun k hk => by rw [hsz]; exact h.low k hk, h.below.trans (S' := fun k => k = l) ⟨rfl, rfl, rfl, by rw [hsz]; exact Nat.le_refl _, fun k _ hk => log_other hk⟩ fun k hk => ?_⟩
  rw [hk]
  exact (h.low l (.inr h.log.here)).1
set_option maxHeartbeats 4000000 in
set_option maxRecDepth 100000 in
theorem open17 (N : Nat → Prop) (W w : World) (S : Nat → Prop) (d m : Nat) (L : List Ent) (room fuse : Int) (F : Nat) (Y : List (List Value)) (t : List Value) (z : Nat) (h : DiskAt w S d m L room fuse false) (hf : -1 ≤ fuse) (hf2 : fuse < 2 ^ 63) (hlow : ∀ k, S k → (N k ∨ W.heap.size ≤ k) ∧ k < w.heap.size) (hb : Turns N W w) (hBy : Bytes L)
    (hF : Found L F Y t z) (hY : ∀ y ∈ Y, 1 ≤ y.length ∧ y.length ≤ 1048576) (ht : Stuck t) (hF2 : F < 9223372036854775808) (hsm : (contL F (Y.map nilv) ++ t).length ≤ 1000000000000) :
    Calls Try.prog 17 #[.pointer (some ⟨d, 0, none⟩)] w (OpenPost N W S d m L room fuse F Y t z) := by
  obtain ⟨i0, hi, hz0, hz1, hz2⟩ := zparts23
  have HI := Lib.hid hi
  have HZ0 := Lib.hid hz0
  have HZ1 := Lib.hid hz1
  have HZ2 := Lib.hid hz2
  have HH := Lib.hid h
  have HLO := Lib.hid hlow
  have HB := Lib.hid hb
  have HBY := Lib.hid hBy
  have HF := Lib.hid hF
  have HY := Lib.hid hY
  have HT := Lib.hid ht
  have HF2 := Lib.hid hF2
  have HSM := Lib.hid hsm
  have HFU := Lib.hid (And.intro hf hf2)
  have hbx := (Below.refl w.heap.size w).alloc (Nat.le_refl _) (logO d 0 (.slice none 0 0) 0 false)
  have hl1 : (w.alloc (logO d 0 (.slice none 0 0) 0 false)).heap[w.heap.size]? = some (logO d 0 (.slice none 0 0) 0 false) := heap_alloc_new w _
  have HD1 := Lib.hid (h.later hbx)
  have HB1 := Lib.hid (hb.trans (Turns.of_below (S := N) hbx) fun _ hk => .inl hk)
  have HL1 := Lib.hid hl1
  obtain ⟨c1, hc1⟩ : ∃ c, chE L fuse false nNew = c := ⟨_, rfl⟩
  obtain ⟨f1, hf1⟩ : ∃ c, chF L fuse false nNew = c := ⟨_, rfl⟩
  obtain ⟨d1, hd1⟩ : ∃ c, chD L fuse false nNew = c := ⟨_, rfl⟩
  have hrm := remove _ S d m L room fuse false nNew (by decide) (h.later hbx) hf hf2
  rw [hc1, hf1, hd1] at hrm
  have HRM := Lib.hid hrm
  have HC1 := Lib.hid (And.intro hc1 (And.intro hf1 hd1))
  clear hi hz0 hz1 hz2 h hlow hb hBy hF hY ht hF2 hsm hf hf2 hbx hl1 hrm hc1 hf1 hd1
  go_enter Try.func17, Try.ntmps17
  go_wp2_with fail
  refine (down28 w S d m L room _ _ HH.out).mono ?_
  rintro e w1 ⟨rfl, hw⟩
  obtain rfl := hw.symm
  by_cases hbad : c1 ≠ 0 ∧ c1 ≠ 6
  · have hb0 : (c1 != 0) = true := by simp [hbad.1]
    have hb6 : (c1 != 6) = true := by simp [hbad.2]
    have HBAD := Lib.hid hbad
    clear hbad
    go_wp2_with fail
    refine HRM.out.mono ?_
    rintro e w2 ⟨rfl, ht2, hs2, hd2⟩
    have HD2 := Lib.hid hd2
    have HT2 := Lib.hid ht2
    clear hd2 ht2
    go_wp2_with fail
    go_ret2
    refine ⟨_, _, _, c1, .inl ⟨by rw [HC1.out.1]; exact HBAD.out.1, by rw [HC1.out.1]; exact HBAD.out.2, HC1.out.1.symm, rfl, HC1.out.2.1.symm, HC1.out.2.2.symm⟩, .inr ⟨HBAD.out.1, rfl, HD2.out, fun k hk => ⟨(HLO.out k hk).1, ?_⟩, HB1.out.trans HT2.out fun k hk => (HLO.out k hk).1⟩⟩
    have h1 := (HLO.out k hk).2
    have h2 := HT2.out.size
    simp at h2
    omega
  · have hok : c1 = 0 ∨ c1 = 6 := by omega
    obtain ⟨hd1, hf1, hf12⟩ := ch_ok (by rw [HC1.out.1]; exact hok) HFU.out.1 HFU.out.2
    rw [HC1.out.2.2] at hd1
    subst hd1
    rw [HC1.out.2.1] at hf1 hf12
    have HF1 := Lib.hid (And.intro hf1 hf12)
    clear hbad hf1 hf12
    rcases hok with rfl | rfl
    all_goals
      go_wp2_with fail
      refine HRM.out.mono ?_
      rintro e w2 ⟨rfl, ht2, hs2, hd2⟩
      have HD2 := Lib.hid hd2
      have HT2 := Lib.hid ht2
      have HS2 := Lib.hid hs2
      clear hd2 ht2 hs2
      go_wp2_with fail
      have hrd := read w2 S d m (remL L fuse false nNew) room f1 false nWal (by decide) HD2.out (bytes_rem HBY.out _ _ _)
      have hl2 := (HT2.out.block _ (blk_lt HL1.out) (fun e => by have := (HLO.out _ e).2; omega)).trans HL1.out
      have HL2 := Lib.hid hl2
      have HSZ2 := Lib.hid (show w2.heap.size = w.heap.size + 1 by rw [HS2.out]; simp)
      have HTT2 := Lib.hid (HB1.out.trans HT2.out fun k hk => (HLO.out k hk).1)
      clear hl2
      rcases HF.out with ⟨hlk, rfl, rfl, rfl, rfl⟩ | ⟨e, hlk, hbs, hz⟩
      · have hg2 : getE (remL L fuse false nNew) false nWal = (none, 6) := by unfold getE; rw [look_rem, hlk]; rfl
        rw [hg2] at hrd
        have HRD := Lib.hid hrd
        have HLK := Lib.hid hlk
        clear hrd hlk hg2
        refine HRD.out.mono ?_
        rintro e w3 ⟨v, rfl, hr3, hb3⟩
        obtain ⟨ra, rc, rfl⟩ := row_form hr3
        have HB3 := Lib.hid hb3
        clear hr3 hb3
        go_wp2_with fail
        go_ret2
        refine ⟨_, _, _, 0, .inr (.inl ⟨by rw [HC1.out.1]; first | exact .inl rfl | exact .inr rfl, HLK.out, rfl, rfl, HC1.out.2.1.symm, HC1.out.2.2.symm⟩), .inl ⟨rfl, fun k => k = w.heap.size, w.heap.size, .slice none 0 0, [], rfl, ⟨HD2.out.later HB3.out, ⟨(HB3.out.block _ (blk_lt HL2.out)).trans HL2.out, World.ownsRow_nil _ _ _ _, (fun x hx => nomatch hx), rfl, fun g hg => ?_, (fun x hx => nomatch hx)⟩, fun k hk e => ?_, fun k hk => ?_, HTT2.out.trans (Turns.of_below (S := N) HB3.out) fun _ hk => .inl hk⟩, rfl⟩⟩
        · rcases hg with hg | ⟨x, hx, _⟩
          · cases hg
          · cases hx
        · have := (HLO.out k hk).2; omega
        · have h1 := HB3.out.size
          have h2 := HSZ2.out
          have h3 := HB.out.size
          rcases hk with hk | hk
          · have := HLO.out k hk; exact ⟨this.1, by omega⟩
          · exact ⟨.inr (by omega), by omega⟩
      · have hg2 : getE (remL L fuse false nNew) false nWal = (some e, 0) := by unfold getE; rw [look_rem, hlk]; rfl
        rw [hg2] at hrd
        simp only [bytesOf] at hrd
        rw [hbs] at hrd
        have HRD := Lib.hid hrd
        have HLK := Lib.hid hlk
        have HZ := Lib.hid hz
        have HBS := Lib.hid hbs
        clear hrd hlk hg2 hbs hz
        obtain ⟨nb, hnb⟩ : ∃ n, (contL F (Y.map nilv) ++ t).length = n := ⟨_, rfl⟩
        have HRD2 := HRD.out
        rw [hnb] at HRD2
        have HNB := Lib.hid hnb
        have HRD3 := Lib.hid HRD2
        clear hnb HRD2
        refine HRD3.out.mono ?_
        rintro e w3 ⟨v, rfl, hr3, hb3⟩
        obtain ⟨h4, h8, h12, hdr⟩ := contL_head F Y t
        rw [HNB.out] at h12
        obtain ⟨g, cb, rfl⟩ : ∃ g c, v = .slice (some ⟨g, 0, none⟩) nb c := by
          rcases hr3.2 with ⟨_, h0⟩ | ⟨g, c, cur, h9, _⟩
          · omega
          · exact ⟨g, c, h9⟩
        have hcb : nb ≤ cb := by
          rcases hr3.2 with ⟨h9, _⟩ | ⟨g', c, cur, h9, _, _, h8, _⟩
          · cases h9
          · cases h9; exact h8
        have hgl := hr3.lt g rfl
        obtain ⟨BS, hBS⟩ : ∃ l, contL F (Y.map nilv) ++ t = Lib.byteCells l := by
          obtain ⟨l, h1, _⟩ := HBY.out _ (look_mem HLK.out)
          exact ⟨l, HBS.out.symm.trans h1⟩
        have hone : ∀ u ∈ contL F (Y.map nilv) ++ t, u.oneCell' = true := by
          rw [hBS]
          intro u hu
          obtain ⟨x, _, rfl⟩ := List.mem_map.1 hu
          rfl
        have hsrc := row_srcN hr3 hone
        have HSRC := Lib.hid hsrc
        have HB3 := Lib.hid hb3
        have HGL := Lib.hid hgl
        have HCB := Lib.hid hcb
        have hst : (convert 23 9 (.slice (some ⟨g, 0, none⟩) 4 cb)).run Try.prog w3 = .ok (.string ⟨#[119, 97, 108, 49]⟩) w3 := by
          obtain ⟨ad, h1, h2, h3⟩ := hsrc.sub 0 4 (Nat.zero_le _) (by omega) hcb
          have h5 : ad = ⟨g, 0, none⟩ := by
            by_cases hc0 : cb = 0
            · omega
            · rw [if_neg hc0] at h1
              simpa [Addr.add] using h1.symm
          rw [h5, List.drop_zero, h4, mark_bytes] at h3
          exact str_of_srcN h3
        have hs4 := run_slice_to (some ⟨g, 0, none⟩) nb cb 4 4 rfl (by omega)
        obtain ⟨ad, had, hadb, hsub⟩ := hsrc.sub 12 nb (by omega) (Nat.le_refl _) hcb
        have hs12 := fun w => slice23_from (some ⟨g, 0, none⟩) nb cb 12 12 rfl (by omega) w
        rw [had] at hs12
        rw [hdr] at hsub
        have hlen : (Y.flatMap frameL ++ t).length = nb - 12 := by rw [← hdr, List.length_drop, HNB.out]
        rw [← hlen, List.take_of_length_le (Nat.le_refl _)] at hsub
        have hrd8 : SrcN w3 1 (.slice (some ⟨g, 4, none⟩) 8 (cb - 4)) 8 (numL F 8) := by
          obtain ⟨ad1, h1, h2, h3⟩ := hsrc.sub 4 12 (by omega) (by omega) hcb
          have h5 : ad1 = ⟨g, 4, none⟩ := by
            rw [if_neg (by omega)] at h1
            simpa [Addr.add] using h1.symm
          rw [h5] at h3
          rw [← h8]
          exact h3
        have hs412 := fun w => slice23_mid (some ⟨g, 0, none⟩) nb cb 4 12 4 12 rfl rfl (by omega) (by omega) w
        have hl3 := (hb3.block _ (blk_lt HL2.out)).trans HL2.out
        have hW3 : Wal N W w3 S (fun k => k = w.heap.size ∨ k = g) d m (remL L fuse false nNew) room f1 false w.heap.size 0 (.slice none 0 0) [] 0 false := by
          have k1 := hb3.size
          have k2 := HSZ2.out
          have k3 := HB.out.size
          refine ⟨HD2.out.later hb3, ⟨hl3, World.ownsRow_nil _ _ _ _, (fun x hx => nomatch hx), .inl rfl, fun j hj => ?_, (fun x hx => nomatch hx)⟩, fun k hk e => ?_, fun k hk => ?_, HTT2.out.trans (Turns.of_below (S := N) hb3) fun _ hk => .inl hk⟩
          · rcases hj with hj | ⟨x, hx, _⟩
            · cases hj
            · cases hx
          · have := (HLO.out k hk).2; omega
          · rcases hk with hk | hk
            · have := HLO.out k hk; exact ⟨this.1, by omega⟩
            · exact ⟨.inr (by omega), by omega⟩
        have HW4 := Lib.hid ((hW3.firsted F).sized 12)
        obtain ⟨q0, q1, q2, q3, q4, q5⟩ := log_cells hl3
        have q51 := q5 1
        obtain ⟨p0, p1, p2, p3, p4, p5⟩ := log_cells (log_set1 (z := (F : Int)) hl3)
        have p53 := p5 3
        have HSUB := Lib.hid (hsub.same (w' := (w3.setCell ⟨w.heap.size, 1, none⟩ (.int .i64 F)).setCell ⟨w.heap.size, 3, none⟩ (.int .i64 12)) fun j hj => by
          have hj' : ad.block = j := by simpa [Value.ownBlock] using hj
          have k2 := HSZ2.out
          rw [log_other (by rw [← hj', hadb]; show g ≠ _; omega), log_other (by rw [← hj', hadb]; show g ≠ _; omega)])
        have HLEN := Lib.hid hlen
        have HADB := Lib.hid hadb
        have HR8 := Lib.hid hrd8
        have hw12 : decide ((nb : Int) < 12) = false := decide_eq_false (by omega)
        clear hr3 hb3 hsrc hgl hsub hlen hadb hrd8 hW3 hl3 q5 p5 had h4 h8 hdr hone
        go_wp2_with fail
        refine (read42 w3 _ F 8 (by omega) (by omega) (by have := HF2.out; omega) HF2.out HR8.out).mono ?_
        rintro e' w4 ⟨rfl, hw4⟩
        obtain rfl := hw4
        have hfw := HF2.out
        go_wp2_with fail
        go_loopw [8] (fun q wr => InOpen N W S d m (remL L fuse false nNew) room f1 false F Y t w.heap.size g q wr) (fun q _ => lenV q)
        case atStart =>
          refine ⟨0, ad, cb - 12, 12, _, _, [], Nat.zero_le _, by simp [contL, markL, numL_len], by rw [List.drop_zero, HLEN.out], by rw [List.drop_zero, HLEN.out]; omega, HADB.out, HSUB.out, rfl, HW4.out, .inr rfl, by have := HSZ2.out; have := HGL.out; omega, ?_, fun e => by cases e⟩
          have := HGL.out
          simp
          omega
        case round =>
          obtain ⟨k, ad, c', p, T, v, X, hk, hp, rfl, hc', hadb, hsrc, hX, hW, hTg, hgl, hgs, hvg⟩ := hrel
          obtain ⟨va, vc, rfl⟩ := row_form hW.log.row
          have HW := Lib.hid hW
          have HX := Lib.hid hX
          have HP := Lib.hid hp
          have HG := Lib.hid (And.intro hTg (And.intro hgl (And.intro hgs (And.intro hvg hadb))))
          obtain ⟨q0, q1, q2, q3, q4, q5⟩ := log_cells hW.log.blk
          have q52 := q5 2
          have q53 := q5 3
          clear hW hX hp hTg hgl hgs hvg hadb q5
          by_cases hlt : k < Y.length
          · obtain ⟨y, hy, hdk, htk⟩ := drop_cons hlt
            obtain ⟨hy1, hy2⟩ := HY.out y (List.mem_of_getElem? hy)
            obtain ⟨R, hR⟩ : ∃ R, (Y.drop (k + 1)).flatMap frameL ++ t = R := ⟨_, rfl⟩
            have hfl : (Y.drop k).flatMap frameL ++ t = numL y.length 4 ++ (y ++ R) := by rw [hdk, List.flatMap_cons, List.append_assoc, hR]; simp [frameL, List.append_assoc]
            rw [hfl] at hsrc hc' ⊢
            obtain ⟨ny, hny⟩ : ∃ n, y.length = n := ⟨_, rfl⟩
            obtain ⟨nr, hnr⟩ : ∃ n, R.length = n := ⟨_, rfl⟩
            have hl : (numL y.length 4 ++ (y ++ R)).length = 4 + ny + nr := by simp [numL_len, hny, hnr]; omega
            have hnrb : nr ≤ 1000000000000 ∧ p ≤ 1000000000000 := by
              have h1 := congrArg List.length (contL_drop F Y t k)
              rw [hfl, hl, List.length_drop, ← HP.out] at h1
              have := HSM.out
              omega
            obtain ⟨hnrb, hpb⟩ := hnrb
            rw [hl] at hsrc hc' ⊢
            have hA0 : ad.add (0 * 1) = ad := by unfold Addr.add; simp
            have hr4 : SrcN wr 1 (.slice (some ad) 4 c') 4 (numL ny 4) := by
              obtain ⟨ad1, h1, h2, h3⟩ := hsrc.sub 0 4 (Nat.zero_le _) (by omega) hc'
              have h5 : ad1 = ad := by
                rw [if_neg (by omega), Option.map_some, hA0] at h1
                exact (Option.some.inj h1).symm
              rw [h5, List.drop_zero, hny, Nat.sub_zero, Nat.sub_zero, List.take_left' (numL_len _ _)] at h3
              exact h3
            obtain ⟨am, ham, hamb, hsm⟩ := hsrc.sub 4 (4 + ny) (by omega) (by omega) hc'
            obtain ⟨ar, har, harb, hsr⟩ := hsrc.sub (4 + ny) (4 + ny + nr) (by omega) (Nat.le_refl _) hc'
            have hs4 := run_slice_to (some ad) (4 + ny + nr) c' 4 4 rfl (by omega)
            have hsM := fun w => slice23_mid (some ad) (4 + ny + nr) c' 4 (4 + ny) 4 (4 + (ny : Int)) rfl (by omega) (by omega) (by omega) w
            have hsR := fun w => slice23_from (some ad) (4 + ny + nr) c' (4 + ny) (4 + (ny : Int)) (by omega) (by omega) w
            rw [ham] at hsM
            rw [har] at hsR
            have e1 : 4 + ny - 4 = ny := by omega
            have e2 : 4 + ny + nr - (4 + ny) = nr := by omega
            rw [e1] at hsM hsm
            rw [e2] at hsR hsr
            have e3 : ((numL (y.length : Int) 4 ++ (y ++ R)).drop 4).take ny = y := by
              rw [List.drop_left' (numL_len _ _), List.take_left' hny]
            have e4 : ((numL (y.length : Int) 4 ++ (y ++ R)).drop (4 + ny)).take nr = R := by
              rw [← List.drop_drop, List.drop_left' (numL_len _ _), List.drop_left' hny, ← hnr, List.take_length]
            rw [e3] at hsm
            rw [e4] at hsr
            have HSM2 := Lib.hid hsm
            have HSR2 := Lib.hid hsr
            have HR4 := Lib.hid hr4
            have HAB := Lib.hid (And.intro hamb (And.intro harb hR))
            have HHY := Lib.hid (And.intro hy (And.intro htk (And.intro hny hnr)))
            have hd1 : decide ((ny : Int) < 1) = false := decide_eq_false (by omega)
            have hd2 : decide ((1048576 : Int) < (ny : Int)) = false := decide_eq_false (by omega)
            have HC' := Lib.hid hc'
            have hny2 : ny ≤ 1048576 := by omega
            clear hsrc hsm hsr hr4 hamb harb hR hy hdk htk hfl hny hnr hl hA0 ham har e1 e2 e3 e4 hy1 hy2
            go_wp2_with fail
            refine (read42 wr _ ny 4 (by omega) (by omega) (by omega) (by omega) HR4.out).mono ?_
            rintro e' w5 ⟨rfl, hw5⟩
            obtain rfl := hw5
            have hd3 : decide ((4 : Int) + ny + nr - 4 < ny) = false := decide_eq_false (by omega)
            have hxl : X.length ≤ 1000000000000 := by
              have h1 := congrArg List.length HX.out
              rw [List.length_map, List.length_take] at h1
              have h2 : Y.length ≤ (contL F (Y.map nilv) ++ t).length := by
                have := cost_len Y
                have h3 := contL_cost F Y
                rw [List.length_append]
                have h4 : (contL (F : Int) (Y.map nilv)).length = 12 + cost Y := h3
                omega
              have := HSM.out
              omega
            have hn2 : ((4 + ny + nr : Nat) : Int) = 4 + ny + nr := by omega
            have hw4 : IntKind.i64.wrap (4 + (ny : Int)) = 4 + (ny : Int) := by simp only [IntKind.wrap, IntKind.bits, IntKind.signed]; simp; omega
            have HB5 := Lib.hid ((Below.refl wr.heap.size wr).drew)
            have HA5 := Lib.hid ((Below.refl wr.drew.heap.size wr.drew).alloc (Nat.le_refl _) (.cells #[.slice (some am) ny (c' - 4)] 23))
            have HROW3 := Lib.hid (row_later (row_later HW.out.log.row HB5.out) HA5.out)
            have HSRC3 := Lib.hid (SrcN.of_block (size := 1) (m := 1) (heap_alloc_new wr.drew (.cells #[.slice (some am) ny (c' - 4)] 23)) rfl (by simp [Value.oneCell']) 1)
            have hlw : w.heap.size < wr.heap.size := blk_lt HW.out.log.blk
            have HVL := Lib.hid (fun g (hg : (Value.slice va X.length vc).ownBlock = some g) => HW.out.log.mine g (.inl hg))
            go_wp2_with fail
            go_region_law (refine step_append_srcN rfl _ _ 33 rfl 0 23 i0 (.slice none 0 0) 1 24 Try.underlying33 HI.out HZ0.out HZ1.out HZ2.out rfl (by omega) _ X.length _ rfl HROW3.out _ 1 _ rfl HSRC3.out (by unfold maxLen; omega) (by omega) (Nat.zero_le _) ?_; intro a9 c9 w9 hr9 hg9 hat9; have HL9 := Lib.hid ((hg9.block _ (Nat.lt_of_lt_of_le hlw HA5.out.size) (fun e => (HVL.out _ e.symm).2.1 rfl)).trans ((HA5.out.block _ hlw).trans ((HB5.out.block _ hlw).trans HW.out.log.blk))); have r9 : w9.cell? ⟨w.heap.size, 2, none⟩ = some (.slice va X.length vc) := (log_cells HL9.out).2.2.1; have s9 : w9.frozen? ⟨w.heap.size, 2, none⟩ = false := (log_cells HL9.out).2.2.2.2.2 2; have HR9 := Lib.hid hr9; have HG9 := Lib.hid hg9; have HAT9 := Lib.hid hat9; clear hr9 hg9 hat9)
            all_goals
              have hgk : (w9.setCell ⟨w.heap.size, 2, none⟩ (.slice a9 (X.length + 1) c9)).heap[g]? = wr.heap[g]? := by
                rw [log_other HG.out.2.1, HG9.out.block g (Nat.lt_of_lt_of_le HG.out.2.2.1 HA5.out.size) (fun e => HG.out.2.2.2.1 e.symm)]
                exact (HA5.out.block g HG.out.2.2.1).trans (HB5.out.block g HG.out.2.2.1)
              have HGK := Lib.hid hgk
              have hw6 := HW.out.pushIn (b := y) HB5.out (by rw [HHY.out.2.2.1]; exact HSM2.out) HSM2.out.one (fun j hj => by
                have hj' : am.block = j := by simpa [Value.ownBlock] using hj
                rw [← hj', HAB.out.1, HG.out.2.2.2.2]
                exact ⟨HG.out.1, HG.out.2.1, HG.out.2.2.1, HG.out.2.2.2.1⟩) HG9.out HR9.out HAT9.out HL9.out
              obtain ⟨_, _, _, k3, _, k5⟩ := log_cells hw6.log.blk
              have f3 := k5 3
              have HW6 := Lib.hid hw6
              clear hw6 k5 hgk
              go_wp2_with fail
              go_roundw
              case rel =>
                have hs6 : wr.heap.size < w9.heap.size := by
                  have h1 : (wr.alloc (.cells #[.slice (some am) ny (c' - 4)] 23)).heap.size ≤ w9.heap.size := HG9.out.size
                  rw [World.size_alloc] at h1
                  exact h1
                have hcast : ((p + (4 + ny) : Nat) : Int) = (p : Int) + (4 + (ny : Int)) := by omega
                refine ⟨k + 1, ar, c' - (4 + ny), p + (4 + ny), With T wr (w9.setCell ⟨w.heap.size, 2, none⟩ (.slice a9 (X.length + 1) c9)), .slice a9 (X.length + 1) c9, X ++ [(.slice (some am) ny (c' - 4), y)], hlt, ?_, ?_, ?_, ?_, ?_, ?_, ?_, .inl HG.out.1, HG.out.2.1, ?_, ?_⟩
                · rw [HHY.out.2.1, contL_len1, ← HP.out, HHY.out.2.2.1]
                · rw [HAB.out.2.2, HHY.out.2.2.2]
                · rw [HAB.out.2.2, HHY.out.2.2.2]; have := HC'.out; omega
                · rw [HAB.out.2.1]; exact HG.out.2.2.2.2
                · rw [HAB.out.2.2, HHY.out.2.2.2]
                  refine HSR2.out.same fun j hj => ?_
                  have hj' : ar.block = j := by simpa [Value.ownBlock] using hj
                  rw [← hj', HAB.out.2.1, HG.out.2.2.2.2, log_other HG.out.2.1]
                  exact HGK.out
                · rw [List.map_append, HX.out, HHY.out.2.1]; rfl
                · rw [hcast]
                  exact HW6.out.sized _
                · have h1 := HG.out.2.2.1
                  simp
                  omega
                · intro e
                  rcases HAT9.out g e with h1 | h1
                  · exact HG.out.2.2.2.1 h1
                  · have h2 := HG.out.2.2.1
                    rw [h1] at h2
                    simp at h2
                    omega
              case measure => simp [lenV]; omega
          · have hkY : k = Y.length := by omega
            have hdk : (Y.drop k).flatMap frameL ++ t = t := by rw [hkY, List.drop_length]; rfl
            rw [hdk] at hsrc hc' ⊢
            have htk : Y.take k = Y := by rw [hkY, List.take_length]
            obtain rfl : p = z := by
              have h1 := HP.out
              rw [htk] at h1
              rw [h1, HZ.out]
            have HXY := Lib.hid (show X.map Prod.snd = Y by rw [HX.out, htk])
            obtain ⟨nt, hnt⟩ : ∃ n, t.length = n := ⟨_, rfl⟩
            have hnbp : nb = p + nt := by
              have h1 := HNB.out
              rw [List.length_append, ← HZ.out, hnt] at h1
              exact h1.symm
            have hpb : p ≤ 1000000000000 ∧ nt ≤ 1000000000000 := by
              have h1 := HSM.out
              rw [List.length_append, ← HZ.out, hnt] at h1
              omega
            obtain ⟨hpb, hntb⟩ := hpb
            rw [hnt] at hsrc hc' ⊢
            have HSRCT := Lib.hid hsrc
            have HNT := Lib.hid hnt
            have HCT := Lib.hid hc'
            clear hsrc hnt hdk htk hkY hc'
            by_cases ht0 : t = []
            · have hnt0 : nt = 0 := by rw [← HNT.out, ht0]; rfl
              have hcond : decide ((4 : Int) ≤ (nt : Int)) = false := decide_eq_false (by omega)
              have hpn : decide (p < nb) = false := decide_eq_false (by omega)
              have HT0 := Lib.hid ht0
              clear ht0 hnt0 hnbp
              go_wp2_with fail
              obtain ⟨c4, hc4⟩ : ∃ c, chE (remL L fuse false nNew) f1 false nWal = c := ⟨_, rfl⟩
              have hsy := sync wr S d m (remL L fuse false nNew) room f1 false nWal (by decide) HW.out.disk HF1.out.1 HF1.out.2
              rw [hc4] at hsy
              have HSY := Lib.hid hsy
              have HC4 := Lib.hid hc4
              clear hsy hc4
              by_cases h40 : c4 = 0
              · subst h40
                refine HSY.out.mono ?_
                rintro e' w7 ⟨rfl, ht7, hs7, hd7⟩
                have HT7 := Lib.hid ht7
                have HD7 := Lib.hid hd7
                clear ht7 hd7 hs7
                go_wp2_with fail
                go_ret2
                exact ⟨_, _, _, 0, OpenSays.of (L2 := (remL L fuse false nNew)) (f2 := f1) (d2 := false) (c2 := 0) (by first | exact .inl rfl | exact .inr rfl) HC1.out.1 HC1.out.2.1 HC1.out.2.2 (by rw [HLK.out]; exact fun e => nomatch e) (.inl ⟨HT0.out, rfl, rfl, rfl, rfl⟩) (.inr ⟨rfl, HC4.out.symm, rfl, rfl, rfl⟩), .inl ⟨rfl, T, _, _, X, rfl, HW.out.disks HT7.out HD7.out, HXY.out⟩⟩
              · have h41 : (c4 != 0) = true := by simp [h40]
                have H40 := Lib.hid h40
                clear h40
                refine HSY.out.mono ?_
                rintro e' w7 ⟨rfl, ht7, hs7, hd7⟩
                have HT7 := Lib.hid ht7
                have HD7 := Lib.hid hd7
                clear ht7 hd7 hs7
                go_wp2_with fail
                go_ret2
                exact ⟨_, _, _, c4, OpenSays.of (L2 := (remL L fuse false nNew)) (f2 := f1) (d2 := false) (c2 := 0) (by first | exact .inl rfl | exact .inr rfl) HC1.out.1 HC1.out.2.1 HC1.out.2.2 (by rw [HLK.out]; exact fun e => nomatch e) (.inl ⟨HT0.out, rfl, rfl, rfl, rfl⟩) (.inr ⟨rfl, HC4.out.symm, rfl, rfl, rfl⟩), .inr ⟨H40.out, rfl, HD7.out, fun k hk => ⟨(HW.out.low k (.inl hk)).1, Nat.lt_of_lt_of_le (HW.out.low k (.inl hk)).2 HT7.out.size⟩, HW.out.below.trans HT7.out fun k hk => (HW.out.low k (.inl hk)).1⟩⟩
            · have hnt0 : 0 < nt := by rw [← HNT.out]; exact List.length_pos_iff.2 ht0
              have hpn : decide (p < nb) = true := decide_eq_true (by omega)
              have HT0 := Lib.hid ht0
              have hcu := cut wr S d m (remL L fuse false nNew) room f1 false nWal p (by decide) HW.out.disk HF1.out.1 HF1.out.2
              obtain ⟨c2, hc2⟩ : ∃ c, cutE (remL L fuse false nNew) f1 false nWal p = c := ⟨_, rfl⟩
              obtain ⟨hsplit, hsa, hsb⟩ : (decide ((4 : Int) ≤ (nt : Int)) = false ∨ ∃ n t', t = numL (n : Nat) 4 ++ t' ∧ 1 ≤ n ∧ n ≤ 1048576 ∧ t'.length < n ∧ decide ((4 : Int) ≤ (nt : Int)) = true) ∧ True ∧ True := by
                refine ⟨?_, trivial, trivial⟩
                rcases HT.out with hs | ⟨n, t', hs, hn1, hn2, hn3⟩
                · exact .inl (decide_eq_false (by rw [HNT.out] at hs; omega))
                · exact .inr ⟨n, t', hs, hn1, hn2, hn3, decide_eq_true (by rw [← HNT.out, hs]; simp [numL_len]; omega)⟩
              by_cases hc20 : c2 = 0
              · subst hc20
                obtain ⟨k1, k2, k3⟩ := cut_ok hc2 HF1.out.1 HF1.out.2
                obtain ⟨f6, hf6⟩ : ∃ f, cutF (remL L fuse false nNew) f1 false nWal p = f := ⟨_, rfl⟩
                rw [hc2, k1, hf6] at hcu
                rw [hf6] at k2 k3
                have HCU := Lib.hid hcu
                have HF6 := Lib.hid (And.intro k2 k3)
                have H6 := Lib.hid (And.intro hf6 (And.intro k1 hc2))
                clear ht0 hnt0 hcu hc2 k1 k2 k3 hf6 hsa hsb
                rcases hsplit with hcond | ⟨n, t', hs, hn1, hn2, hn3, hcond⟩
                · clear hnbp
                  go_wp2_with fail
                  refine HCU.out.mono ?_
                  rintro e' w6 ⟨rfl, ht6, hs6, hd6⟩
                  have HW6 := Lib.hid (HW.out.disks ht6 hd6)
                  obtain ⟨j0, j1, j2, j3, j4, j5⟩ := log_cells (HW6.out.log.blk)
                  clear ht6 hs6 hd6 j5
                  go_wp2_with fail
                  obtain ⟨c4, hc4⟩ : ∃ c, chE (cutL (remL L fuse false nNew) f1 false nWal p) f6 false nWal = c := ⟨_, rfl⟩
                  have hsy := sync w6 S d m (cutL (remL L fuse false nNew) f1 false nWal p) room f6 false nWal (by decide) HW6.out.disk HF6.out.1 HF6.out.2
                  rw [hc4] at hsy
                  have HSY := Lib.hid hsy
                  have HC4 := Lib.hid hc4
                  clear hsy hc4
                  by_cases h40 : c4 = 0
                  · subst h40
                    refine HSY.out.mono ?_
                    rintro e' w7 ⟨rfl, ht7, hs7, hd7⟩
                    have HT7 := Lib.hid ht7
                    have HD7 := Lib.hid hd7
                    clear ht7 hd7 hs7
                    go_wp2_with fail
                    go_ret2
                    exact ⟨_, _, _, 0, OpenSays.of (L2 := (cutL (remL L fuse false nNew) f1 false nWal p)) (f2 := f6) (d2 := false) (c2 := 0) (by first | exact .inl rfl | exact .inr rfl) HC1.out.1 HC1.out.2.1 HC1.out.2.2 (by rw [HLK.out]; exact fun e => nomatch e) (.inr ⟨HT0.out, rfl, H6.out.1.symm, H6.out.2.1.symm, H6.out.2.2.symm⟩) (.inr ⟨rfl, HC4.out.symm, rfl, rfl, rfl⟩), .inl ⟨rfl, T, _, _, X, rfl, HW6.out.disks HT7.out HD7.out, HXY.out⟩⟩
                  · have h41 : (c4 != 0) = true := by simp [h40]
                    have H40 := Lib.hid h40
                    clear h40
                    refine HSY.out.mono ?_
                    rintro e' w7 ⟨rfl, ht7, hs7, hd7⟩
                    have HT7 := Lib.hid ht7
                    have HD7 := Lib.hid hd7
                    clear ht7 hd7 hs7
                    go_wp2_with fail
                    go_ret2
                    exact ⟨_, _, _, c4, OpenSays.of (L2 := (cutL (remL L fuse false nNew) f1 false nWal p)) (f2 := f6) (d2 := false) (c2 := 0) (by first | exact .inl rfl | exact .inr rfl) HC1.out.1 HC1.out.2.1 HC1.out.2.2 (by rw [HLK.out]; exact fun e => nomatch e) (.inr ⟨HT0.out, rfl, H6.out.1.symm, H6.out.2.1.symm, H6.out.2.2.symm⟩) (.inr ⟨rfl, HC4.out.symm, rfl, rfl, rfl⟩), .inr ⟨H40.out, rfl, HD7.out, fun k hk => ⟨(HW6.out.low k (.inl hk)).1, Nat.lt_of_lt_of_le (HW6.out.low k (.inl hk)).2 HT7.out.size⟩, HW6.out.below.trans HT7.out fun k hk => (HW6.out.low k (.inl hk)).1⟩⟩
                · have hnt4 : nt = 4 + t'.length := by rw [← HNT.out, hs]; simp [numL_len]
                  have hct := HCT.out
                  have hA0 : ad.add (0 * 1) = ad := by unfold Addr.add; simp
                  have hr4 : SrcN wr 1 (.slice (some ad) 4 c') 4 (numL n 4) := by
                    obtain ⟨ad1, h1, h2, h3⟩ := HSRCT.out.sub 0 4 (Nat.zero_le _) (by omega) hct
                    have h5 : ad1 = ad := by
                      rw [if_neg (by omega), Option.map_some, hA0] at h1
                      exact (Option.some.inj h1).symm
                    rw [h5, List.drop_zero, hs, Nat.sub_zero, Nat.sub_zero, List.take_left' (numL_len _ _)] at h3
                    exact h3
                  have hs4 := run_slice_to (some ad) nt c' 4 4 rfl (by omega)
                  have hd1 : decide ((n : Int) < 1) = false := decide_eq_false (by omega)
                  have hd2 : decide ((1048576 : Int) < (n : Int)) = false := decide_eq_false (by omega)
                  have hd3 : decide ((nt : Int) - 4 < (n : Int)) = true := decide_eq_true (by omega)
                  have HR4 := Lib.hid hr4
                  clear hr4 hA0 hs hnt4 hct hn3 hnbp
                  go_wp2_with fail
                  refine (read42 wr _ n 4 (by omega) (by omega) (by omega) (by omega) HR4.out).mono ?_
                  rintro e' w5 ⟨rfl, hw5⟩
                  obtain rfl := hw5
                  go_wp2_with fail
                  refine HCU.out.mono ?_
                  rintro e' w6 ⟨rfl, ht6, hs6, hd6⟩
                  have HW6 := Lib.hid (HW.out.disks ht6 hd6)
                  obtain ⟨j0, j1, j2, j3, j4, j5⟩ := log_cells (HW6.out.log.blk)
                  clear ht6 hs6 hd6 j5
                  go_wp2_with fail
                  obtain ⟨c4, hc4⟩ : ∃ c, chE (cutL (remL L fuse false nNew) f1 false nWal p) f6 false nWal = c := ⟨_, rfl⟩
                  have hsy := sync w6 S d m (cutL (remL L fuse false nNew) f1 false nWal p) room f6 false nWal (by decide) HW6.out.disk HF6.out.1 HF6.out.2
                  rw [hc4] at hsy
                  have HSY := Lib.hid hsy
                  have HC4 := Lib.hid hc4
                  clear hsy hc4
                  by_cases h40 : c4 = 0
                  · subst h40
                    refine HSY.out.mono ?_
                    rintro e' w7 ⟨rfl, ht7, hs7, hd7⟩
                    have HT7 := Lib.hid ht7
                    have HD7 := Lib.hid hd7
                    clear ht7 hd7 hs7
                    go_wp2_with fail
                    go_ret2
                    exact ⟨_, _, _, 0, OpenSays.of (L2 := (cutL (remL L fuse false nNew) f1 false nWal p)) (f2 := f6) (d2 := false) (c2 := 0) (by first | exact .inl rfl | exact .inr rfl) HC1.out.1 HC1.out.2.1 HC1.out.2.2 (by rw [HLK.out]; exact fun e => nomatch e) (.inr ⟨HT0.out, rfl, H6.out.1.symm, H6.out.2.1.symm, H6.out.2.2.symm⟩) (.inr ⟨rfl, HC4.out.symm, rfl, rfl, rfl⟩), .inl ⟨rfl, T, _, _, X, rfl, HW6.out.disks HT7.out HD7.out, HXY.out⟩⟩
                  · have h41 : (c4 != 0) = true := by simp [h40]
                    have H40 := Lib.hid h40
                    clear h40
                    refine HSY.out.mono ?_
                    rintro e' w7 ⟨rfl, ht7, hs7, hd7⟩
                    have HT7 := Lib.hid ht7
                    have HD7 := Lib.hid hd7
                    clear ht7 hd7 hs7
                    go_wp2_with fail
                    go_ret2
                    exact ⟨_, _, _, c4, OpenSays.of (L2 := (cutL (remL L fuse false nNew) f1 false nWal p)) (f2 := f6) (d2 := false) (c2 := 0) (by first | exact .inl rfl | exact .inr rfl) HC1.out.1 HC1.out.2.1 HC1.out.2.2 (by rw [HLK.out]; exact fun e => nomatch e) (.inr ⟨HT0.out, rfl, H6.out.1.symm, H6.out.2.1.symm, H6.out.2.2.symm⟩) (.inr ⟨rfl, HC4.out.symm, rfl, rfl, rfl⟩), .inr ⟨H40.out, rfl, HD7.out, fun k hk => ⟨(HW6.out.low k (.inl hk)).1, Nat.lt_of_lt_of_le (HW6.out.low k (.inl hk)).2 HT7.out.size⟩, HW6.out.below.trans HT7.out fun k hk => (HW6.out.low k (.inl hk)).1⟩⟩
              · have h20 : (c2 != 0) = true := by simp [hc20]
                have H20 := Lib.hid hc20
                rw [hc2] at hcu
                have HCU := Lib.hid hcu
                have HC2 := Lib.hid hc2
                clear ht0 hnt0 hcu hc2 hc20 hsa hsb
                rcases hsplit with hcond | ⟨n, t', hs, hn1, hn2, hn3, hcond⟩
                · clear hnbp
                  go_wp2_with fail
                  refine HCU.out.mono ?_
                  rintro e' w6 ⟨rfl, ht6, hs6, hd6⟩
                  have HT6 := Lib.hid ht6
                  have HD6 := Lib.hid hd6
                  clear ht6 hs6 hd6
                  go_wp2_with fail
                  go_ret2
                  exact ⟨_, _, _, c2, OpenSays.of (L2 := _) (f2 := _) (d2 := _) (c2 := c2) (by first | exact .inl rfl | exact .inr rfl) HC1.out.1 HC1.out.2.1 HC1.out.2.2 (by rw [HLK.out]; exact fun e => nomatch e) (.inr ⟨HT0.out, rfl, rfl, rfl, HC2.out.symm⟩) (.inl ⟨H20.out, rfl, rfl, rfl, rfl⟩), .inr ⟨H20.out, rfl, HD6.out, fun k hk => ⟨(HW.out.low k (.inl hk)).1, Nat.lt_of_lt_of_le (HW.out.low k (.inl hk)).2 HT6.out.size⟩, HW.out.below.trans HT6.out fun k hk => (HW.out.low k (.inl hk)).1⟩⟩
                · have hnt4 : nt = 4 + t'.length := by rw [← HNT.out, hs]; simp [numL_len]
                  have hct := HCT.out
                  have hA0 : ad.add (0 * 1) = ad := by unfold Addr.add; simp
                  have hr4 : SrcN wr 1 (.slice (some ad) 4 c') 4 (numL n 4) := by
                    obtain ⟨ad1, h1, h2, h3⟩ := HSRCT.out.sub 0 4 (Nat.zero_le _) (by omega) hct
                    have h5 : ad1 = ad := by
                      rw [if_neg (by omega), Option.map_some, hA0] at h1
                      exact (Option.some.inj h1).symm
                    rw [h5, List.drop_zero, hs, Nat.sub_zero, Nat.sub_zero, List.take_left' (numL_len _ _)] at h3
                    exact h3
                  have hs4 := run_slice_to (some ad) nt c' 4 4 rfl (by omega)
                  have hd1 : decide ((n : Int) < 1) = false := decide_eq_false (by omega)
                  have hd2 : decide ((1048576 : Int) < (n : Int)) = false := decide_eq_false (by omega)
                  have hd3 : decide ((nt : Int) - 4 < (n : Int)) = true := decide_eq_true (by omega)
                  have HR4 := Lib.hid hr4
                  clear hr4 hA0 hs hnt4 hct hn3 hnbp
                  go_wp2_with fail
                  refine (read42 wr _ n 4 (by omega) (by omega) (by omega) (by omega) HR4.out).mono ?_
                  rintro e' w5 ⟨rfl, hw5⟩
                  obtain rfl := hw5
                  go_wp2_with fail
                  refine HCU.out.mono ?_
                  rintro e' w6 ⟨rfl, ht6, hs6, hd6⟩
                  have HT6 := Lib.hid ht6
                  have HD6 := Lib.hid hd6
                  clear ht6 hs6 hd6
                  go_wp2_with fail
                  go_ret2
                  exact ⟨_, _, _, c2, OpenSays.of (L2 := _) (f2 := _) (d2 := _) (c2 := c2) (by first | exact .inl rfl | exact .inr rfl) HC1.out.1 HC1.out.2.1 HC1.out.2.2 (by rw [HLK.out]; exact fun e => nomatch e) (.inr ⟨HT0.out, rfl, rfl, rfl, HC2.out.symm⟩) (.inl ⟨H20.out, rfl, rfl, rfl, rfl⟩), .inr ⟨H20.out, rfl, HD6.out, fun k hk => ⟨(HW.out.low k (.inl hk)).1, Nat.lt_of_lt_of_le (HW.out.low k (.inl hk)).2 HT6.out.size⟩, HW.out.below.trans HT6.out fun k hk => (HW.out.low k (.inl hk)).1⟩⟩
end Go.Proofs.Ytjkgcpbgacdgaaa
