/- Another log laid down: 'anew'. Conditions: the disk lies there whole, the log and its entries apart from it. -/
import Derived.Test.YtjkgcpbgacdgaaaBD
import Derived.ArgAppend
namespace Go.Proofs.Ytjkgcpbgacdgaaa
open Go.RowKit
def markL : List Value := [.int .u8 119, .int .u8 97, .int .u8 108, .int .u8 49]
def frameL (x : List Value) : List Value := numL x.length 4 ++ x
/-- A log's file. -/
def contL (first : Int) (X : List (Value × List Value)) : List Value := markL ++ numL first 8 ++ X.flatMap fun x => frameL x.2
theorem contL_snoc {first : Int} {X : List (Value × List Value)} {k : Nat} {x : Value × List Value} (h : X[k]? = some x) : contL first (X.take (k + 1)) = contL first (X.take k) ++ frameL x.2 := by
  obtain ⟨hk, rfl⟩ := List.getElem?_eq_some_iff.1 h
  unfold contL
  rw [List.take_succ_eq_append_getElem hk, List.flatMap_append, ← List.append_assoc]
  simp
theorem contL_le (first : Int) (X : List (Value × List Value)) (k : Nat) : (contL first (X.take k)).length ≤ (contL first X).length := by
  unfold contL
  simp only [List.length_append]
  have : ((X.take k).flatMap fun x => frameL x.2).length ≤ (X.flatMap fun x => frameL x.2).length := by
    conv => rhs; rw [← List.take_append_drop k X]
    rw [List.flatMap_append, List.length_append]
    omega
  omega
/-- A list of entries, where it lies. -/
def ListAt (w : World) (v : Value) (X : List (Value × List Value)) : Prop :=
  ((v = .slice none 0 0 ∧ X = []) ∨ ∃ lb off c, v = .slice (some ⟨lb, off, none⟩) X.length c ∧ ∀ k x, X[k]? = some x → w.cell? ⟨lb, off + k, none⟩ = some x.1) ∧ ∀ x ∈ X, SrcN w 1 x.1 x.2.length x.2
theorem ListAt.form {w : World} {v : Value} {X : List (Value × List Value)} (h : ListAt w v X) : ∃ a c, v = .slice a X.length c := by
  rcases h.1 with ⟨rfl, rfl⟩ | ⟨lb, off, c, rfl, _⟩
  · exact ⟨none, 0, rfl⟩
  · exact ⟨_, c, rfl⟩
theorem ListAt.cell {w : World} {a : Option Addr} {n c : Nat} {X : List (Value × List Value)} (h : ListAt w (.slice a n c) X) {k : Nat} {x : Value × List Value} (hx : X[k]? = some x) : ∃ lb off, a = some ⟨lb, off, none⟩ ∧ ∀ wr, Below w.heap.size w wr → wr.cell? ⟨lb, off + k, none⟩ = some x.1 := by
  rcases h.1 with ⟨_, rfl⟩ | ⟨lb, off, c', hv, hc⟩
  · simp at hx
  · injection hv with e1
    subst e1
    refine ⟨lb, off, rfl, fun wr hb => ?_⟩
    have h1 := hc k x hx
    rw [hb.cell (World.block_lt_of_cell? w _ h1), h1]
theorem row_srcAt {w : World} {S : Nat → Prop} {base n : Nat} {v : Value} {xs : List Value} (h : w.ownsRow base 5 1 v n xs) (hS : ∀ k, S k → k < base) (h1 : ∀ u ∈ xs, u.oneCell' = true) : SrcAt w S v xs := by
  have hl : xs.length = n := by rw [h.1, Nat.mul_one]
  rcases h.2 with ⟨rfl, h0⟩ | ⟨g, c, cur, rfl, hb, hg, hnc, _⟩
  · exact .inl ⟨rfl, List.eq_nil_of_length_eq_zero (by omega)⟩
  · refine .inr ⟨_, c, by rw [hl], by omega, fun _ => blk_lt hg, fun _ hs => by have := hS _ hs; simp at this; omega, fun j u hj => ?_, h1⟩
    have hjl : j < n * 1 := by have := (List.getElem?_eq_some_iff.1 hj).1; omega
    have h2 := h.cellAt j hjl
    have h9 : (⟨g, 0, none⟩ : Addr).add j = ⟨g, j, none⟩ := by
      unfold Addr.add
      by_cases h0 : j = 0 <;> simp [h0]
    rw [h9, h2]; exact hj
theorem frameL_one {x : List Value} (h : ∀ u ∈ x, u.oneCell' = true) : ∀ u ∈ frameL x, u.oneCell' = true := fun u hu => by
  rcases List.mem_append.1 hu with hu | hu
  · exact numL_one u hu
  · exact h u hu
theorem contL_one {first : Int} {X : List (Value × List Value)} (h : ∀ x ∈ X, ∀ u ∈ x.2, u.oneCell' = true) : ∀ u ∈ contL first X, u.oneCell' = true := fun u hu => by
  rcases List.mem_append.1 hu with hu | hu
  · rcases List.mem_append.1 hu with hu | hu
    · simp [markL] at hu
      rcases hu with rfl | rfl | rfl | rfl <;> rfl
    · exact numL_one u hu
  · obtain ⟨x, hx, hux⟩ := List.mem_flatMap.1 hu
    exact frameL_one (h x hx) u hux
theorem setF_len (L : List Ent) (s : ByteArray) (v : Value) (bs : List Value) (syn : Int) : (setF L s v bs syn).length = L.length := by simp [setF]
theorem syncL_len (L : List Ent) (fuse : Int) (down : Bool) (s : ByteArray) : (syncL L fuse down s).length = L.length := by
  unfold syncL
  split
  · split
    · exact setF_len _ _ _ _ _
    · rfl
  · rfl
theorem says_len {L L' : List Ent} {room fuse : Int} {down : Bool} {s : ByteArray} {xs : List Value} {j : Nat} {err : Int} (h : AppSays L room fuse down s xs L' j err) : L'.length ≤ L.length + 1 := by
  rcases h with ⟨_, rfl, _⟩ | ⟨_, _, rfl, _⟩ | ⟨_, _, _, rfl, _⟩ | ⟨_, _, _, _, _, f, v, rfl⟩
  · omega
  · omega
  · omega
  · unfold addE
    split
    · rw [setF_len]; omega
    · rw [(insE_perm _ _).length_eq]; simp
/-- What 'anew' does to the disk, and answers. -/
def AnewSays (L : List Ent) (room fuse : Int) (down : Bool) (xs : List Value) (L' : List Ent) (fuse' : Int) (down' : Bool) (e : Int) : Prop :=
  ∃ L1 j e1, AppSays L room fuse down nNew xs L1 j e1 ∧
    ((e1 = 7 ∧ L' = remL L1 (apF fuse down nNew) (apD fuse down nNew) nNew ∧ fuse' = chF L1 (apF fuse down nNew) (apD fuse down nNew) nNew ∧ down' = chD L1 (apF fuse down nNew) (apD fuse down nNew) nNew ∧ e = (if chE L1 (apF fuse down nNew) (apD fuse down nNew) nNew = 0 then 7 else chE L1 (apF fuse down nNew) (apD fuse down nNew) nNew)) ∨
     (e1 = 0 ∧ chE L1 (apF fuse down nNew) (apD fuse down nNew) nNew ≠ 0 ∧ L' = syncL L1 (apF fuse down nNew) (apD fuse down nNew) nNew ∧ fuse' = chF L1 (apF fuse down nNew) (apD fuse down nNew) nNew ∧ down' = chD L1 (apF fuse down nNew) (apD fuse down nNew) nNew ∧ e = chE L1 (apF fuse down nNew) (apD fuse down nNew) nNew) ∨
     (e1 = 0 ∧ chE L1 (apF fuse down nNew) (apD fuse down nNew) nNew = 0 ∧ ∃ L2 f2 d2, L2 = syncL L1 (apF fuse down nNew) (apD fuse down nNew) nNew ∧ f2 = chF L1 (apF fuse down nNew) (apD fuse down nNew) nNew ∧ d2 = chD L1 (apF fuse down nNew) (apD fuse down nNew) nNew ∧ L' = renL L2 f2 d2 nNew nWal ∧ fuse' = renF L2 f2 d2 nNew nWal ∧ down' = renD L2 f2 d2 nNew nWal ∧ e = renE L2 f2 d2 nNew nWal) ∨
     (e1 ≠ 0 ∧ e1 ≠ 7 ∧ L' = L1 ∧ fuse' = apF fuse down nNew ∧ down' = apD fuse down nNew ∧ e = e1))
def AnewPost (w : World) (S : Nat → Prop) (d m l : Nat) (f0 : Int) (lv : Value) (size : Int) (L : List Ent) (room fuse : Int) (down : Bool) (xs : List Value) (e : Ending) (w' : World) : Prop :=
  ∃ L' fuse' down' er, e = .returned (.int .i64 er) ∧ Turns (SL S l) w w' ∧ DiskAt w' (With S w w') d m L' room fuse' down' ∧ w'.heap[l]? = some (logO d f0 lv (if er = 0 then xs.length else size) (er == 8)) ∧ AnewSays L room fuse down xs L' fuse' down' er
theorem AnewPost.of {w wr w' : World} {S : Nat → Prop} {d m l : Nat} {f0 size : Int} {lv : Value} {L : List Ent} {room fuse : Int} {down : Bool} {xs : List Value} {e : Ending} (hb : Below w.heap.size w wr) (h : AnewPost wr S d m l f0 lv size L room fuse down xs e w') : AnewPost w S d m l f0 lv size L room fuse down xs e w' := by
  obtain ⟨L', f', d', er, h1, h2, h3, h4, h5⟩ := h
  refine ⟨L', f', d', er, h1, ?_, h3.more fun k hk => ?_, h4, h5⟩
  · exact ⟨h2.os.trans hb.os, h2.tape.trans hb.tape, h2.output.trans hb.output, Nat.le_trans hb.size h2.size, fun k hk hn => (h2.block k (Nat.lt_of_lt_of_le hk hb.size) hn).trans (hb.block k hk)⟩
  · rcases hk with hk | hk
    · exact .inl hk
    · exact .inr ⟨Nat.le_trans hb.size hk.1, hk.2⟩
theorem step_keep {wr w5 w6 : World} {S : Nat → Prop} (h1 : Turns S wr w5) (h2 : Turns (With S wr w5) w5 w6) : Turns S wr w6 := h1.trans h2 fun x hx => by
  rcases hx with hx | hx
  · exact .inl hx
  · exact .inr hx.1
theorem disk_keep {wr w5 w6 : World} {S : Nat → Prop} {d m : Nat} {L : List Ent} {room fuse : Int} {down : Bool} (h2 : Turns (With S wr w5) w5 w6) (hd : DiskAt w6 (With S wr w5) d m L room fuse down) : DiskAt w6 (With S wr w6) d m L room fuse down :=
  hd.more fun k hk => by
    rcases hk with hk | hk
    · exact .inl hk
    · exact .inr ⟨hk.1, Nat.lt_of_lt_of_le hk.2 h2.size⟩
theorem disk_log3 {w w2 : World} {S : Nat → Prop} {d m l : Nat} {L : List Ent} {room fuse : Int} {down : Bool} {u : Value} (h : DiskAt w2 (With S w w2) d m L room fuse down) (hl : l < w.heap.size) (hS : ¬ S l) : DiskAt (w2.setCell ⟨l, 3, none⟩ u) (With S w (w2.setCell ⟨l, 3, none⟩ u)) d m L room fuse down :=
  (disk_log (i := 3) (u := u) h (with_not hl hS)).more fun k hk => by
    rcases hk with hk | hk
    · exact .inl hk
    · exact .inr (by simpa using hk)
def InAnew (w : World) (first : Int) (X : List (Value × List Value)) (n : Nat) (q i : Value) (wr : World) : Prop :=
  ∃ k : Nat, k ≤ n ∧ i = .int .i64 k ∧ wr.ownsRow w.heap.size 5 1 q (contL first (X.take k)).length (contL first (X.take k)) ∧ Below w.heap.size w wr
set_option maxHeartbeats 4000000 in
set_option maxRecDepth 100000 in
theorem anew (w : World) (S : Nat → Prop) (d m l : Nat) (first : Int) (lv : Value) (f0 size : Int) (over : Bool) (L : List Ent) (room fuse : Int) (down : Bool) (v : Value) (X : List (Value × List Value)) (hlog : w.heap[l]? = some (logO d f0 lv size over)) (hSl : ¬ S l) (hSlt : ∀ k, S k → k < w.heap.size)
    (h : DiskAt w S d m L room fuse down) (hf : -1 ≤ fuse) (hf2 : fuse < 2 ^ 63) (hr : 0 ≤ room) (hr2 : room < 2 ^ 63) (hlist : ListAt w v X) (hone : ∀ x ∈ X, ∀ u ∈ x.2, u.oneCell' = true) (hsmall : (contL first X).length ≤ 1000000000000) (hXn : X.length ≤ 1000000000000) (hbytes : lens L + (contL first X).length ≤ 140737488355328) (hcount : L.length + 1 < maxLen) :
    Calls Try.prog 43 #[.pointer (some ⟨l, 0, none⟩), .int .i64 first, v] w (AnewPost w S d m l f0 lv size L room fuse down (contL first X)) := by
  obtain ⟨i0, hi, hz0, hz1, hz2⟩ := zpartsB
  have HI := Lib.hid hi
  have HZ0 := Lib.hid hz0
  have HZ1 := Lib.hid hz1
  have HZ2 := Lib.hid hz2
  obtain ⟨a, c, rfl⟩ := hlist.form
  obtain ⟨n, hn⟩ : ∃ n, X.length = n := ⟨_, rfl⟩
  rw [hn] at hlist hXn
  rw [hn]
  have HN := Lib.hid hn
  have HLI := Lib.hid hlist
  have HLOG := Lib.hid hlog
  have HSL := Lib.hid hSl
  have HSLT := Lib.hid hSlt
  have HH := Lib.hid h
  have HONE := Lib.hid hone
  have HSM := Lib.hid hsmall
  have HBY := Lib.hid hbytes
  have HCT := Lib.hid hcount
  have hcv := conv23 markL.toArray w
  unfold markL at hcv
  simp only [List.size_toArray, List.length_cons, List.length_nil, Nat.zero_add, Nat.reduceAdd] at hcv
  have HMK := Lib.hid (World.news_of_block (cs := markL.toArray) (t := 5) (fr := (4, 5)) (heap_alloc_new w (.cells markL.toArray 5 (4, 5))))
  have HB0 := Lib.hid ((Below.refl w.heap.size w).alloc (Nat.le_refl _) (.cells markL.toArray 5 (4, 5)))
  clear hi hz0 hz1 hz2 hn hlist hlog hSl hSlt h hone hsmall hbytes hcount
  go_enter Try.func43, Try.ntmps43
  go_wp2_with fail
  refine (number first 8 (by decide) _).mono ?_
  rintro e w1 ⟨v1, rfl, hr1, hb1⟩
  obtain ⟨g1, c1, rfl⟩ : ∃ g c, v1 = .slice (some ⟨g, 0, none⟩) 8 c := by
    rcases hr1.2 with ⟨_, h0⟩ | ⟨g, c, cur, h9, _⟩
    · omega
    · exact ⟨g, c, h9⟩
  have HMK1 := Lib.hid (fun j u (hj : markL[j]? = some u) => (by
    have h1 := HMK.out j u (by simpa using hj)
    exact (hb1.cell (by rw [add_block]; simp)).trans h1 : w1.cell? ((⟨w.heap.size, 0, none⟩ : Addr).add j) = some u))
  have HNU1 := Lib.hid (fun j u (hj : (numL first 8)[j]? = some u) => (by
    rcases (row_srcN hr1 numL_one).2 with ⟨h1, _⟩ | ⟨ad, c, h1, h2, _⟩
    · cases h1
    · cases h1; exact h2 j u hj : w1.cell? ((⟨g1, 0, none⟩ : Addr).add j) = some u))
  have HB1 := Lib.hid (HB0.out.trans (hb1.mono HB0.out.size))
  clear hr1 hb1 hcv
  go_wp2_with (at_builtin; go_must (refine wpList_append_grows w1 rfl _ _ 23 rfl 5 i0 (.int .u8 0) 1 1 Try.underlying23 HI.out HZ0.out HZ1.out HZ2.out rfl (by omega) (some ⟨w.heap.size, 0, none⟩) 4 4 markL rfl (fun h => by cases h) rfl (fun b hb j u hj => by cases hb; exact HMK1.out j u hj) ⟨g1, 0, none⟩ 8 c1 (numL first 8) rfl (numL_len _ _) HNU1.out numL_one (by omega) (by decide) (by decide) ?_); intro v2 w2 hr2 hg2; have HR2 := Lib.hid hr2; have HG2 := Lib.hid hg2; clear hr2 hg2)
  have hst : w2.ownsRow w.heap.size 5 1 v2 (contL first (X.take 0)).length (contL first (X.take 0)) := by
    have h1 : contL first (X.take 0) = markL ++ numL first 8 := by simp [contL]
    have h2 : (markL ++ numL first 8).length = 12 := by simp [markL, numL_len]
    rw [h1, h2]
    exact row_low HR2.out HB1.out.size
  have hbst : Below w.heap.size w w2 := HB1.out.grown HG2.out HB1.out.size (fun b hb => by cases hb)
  have HST := Lib.hid hst
  have HBST := Lib.hid hbst
  clear hst hbst
  go_loopw [7, 20] (fun q i wr => InAnew w first X n q i wr) (fun _ i _ => n - (intOf i).toNat)
  case atStart => exact ⟨0, Nat.zero_le _, rfl, HST.out, HBST.out⟩
  case round =>
    obtain ⟨k, hk, rfl, ho, hb⟩ := hrel
    have HO := Lib.hid ho
    have HBW := Lib.hid hb
    clear ho hb
    by_cases hlt : k < n
    · obtain ⟨x, hx⟩ : ∃ x, X[k]? = some x := ⟨_, List.getElem?_eq_getElem (by rw [HN.out]; exact hlt)⟩
      obtain ⟨lb, off, rfl, hc⟩ := HLI.out.cell hx
      have q0 := hc _ HBW.out
      have HX := Lib.hid hx
      obtain ⟨xv, xs⟩ := x
      have hsx : SrcN wr 1 xv xs.length xs := (HLI.out.2 _ (List.mem_of_getElem? hx)).later HBW.out
      have hxl : xs.length ≤ 1000000000000 := by
        have h1 := HSM.out
        have h2 := contL_le first X (k + 1)
        rw [contL_snoc hx, List.length_append] at h2
        unfold frameL at h2
        rw [List.length_append] at h2
        simp only at h2
        omega
      have HSX := Lib.hid hsx
      have HXL := Lib.hid hxl
      obtain ⟨sa, sc, rfl⟩ := hsx.form
      simp only at q0
      clear hx hc hsx hxl
      go_wp2_with fail
      refine (frame wr _ xs HSX.out HXL.out).mono ?_
      rintro e w3 ⟨v3, rfl, hr3, hb3⟩
      have HR3 := Lib.hid (row_srcN hr3 (frameL_one (HONE.out _ (List.mem_of_getElem? HX.out))))
      have HB3 := Lib.hid (HBW.out.trans (hb3.mono HBW.out.size))
      have HO3 := Lib.hid (row_later HO.out hb3)
      have hcl : (contL first (X.take k)).length + (4 + xs.length) ≤ 1000000000000 := by
        have h1 := HSM.out
        have h2 := contL_le first X (k + 1)
        rw [contL_snoc HX.out, List.length_append] at h2
        unfold frameL at h2
        rw [List.length_append, numL_len] at h2
        simp only at h2
        omega
      have HCL := Lib.hid hcl
      obtain ⟨cl, hcle⟩ : ∃ z, (contL first (X.take k)).length = z := ⟨_, rfl⟩
      have HCE := Lib.hid hcle
      rw [hcle] at HO3 HCL
      clear hr3 hb3 hcl hcle q0
      go_wp2_with (at_builtin; go_must (refine wpList_append_srcN rfl _ _ 23 rfl w.heap.size 5 i0 (.int .u8 0) 1 1 Try.underlying23 HI.out HZ0.out HZ1.out HZ2.out rfl (by omega) _ cl _ rfl HO3.out _ (4 + xs.length) _ rfl HR3.out (by have := HCL.out; unfold maxLen; omega) (by have := HCL.out; omega) HB3.out.size ?_); intro v4 w4 hr4 hg4 hat4; have HR4 := Lib.hid hr4; have HG4 := Lib.hid hg4; clear hr4 hg4 hat4)
      go_roundw
      case rel =>
        refine ⟨k + 1, by omega, by go_num, ?_, HB3.out.grown HG4.out HB3.out.size (fun b hb => (HO3.out.lt b hb).1)⟩
        rw [contL_snoc HX.out, List.length_append, HCE.out, show (frameL (Value.slice sa xs.length sc, xs).2).length = 4 + xs.length by simp [frameL, numL_len]]
        exact HR4.out
      case measure => simp [intOf]; omega
    · have hkn : k = n := by omega
      have htk : X.take k = X := List.take_of_length_le (by rw [HN.out, hkn]; exact Nat.le_refl _)
      rw [htk] at HO
      obtain ⟨xs, hxs⟩ : ∃ z, contL first X = z := ⟨_, rfl⟩
      have hone' : ∀ u ∈ contL first X, u.oneCell' = true := contL_one HONE.out
      have HXS := Lib.hid hxs
      rw [hxs] at HO HSM HBY hone'
      have hlog := (HBW.out.block l (blk_lt HLOG.out)).trans HLOG.out
      obtain ⟨c0, _, _, c3, c4, c5⟩ := log_cells hlog
      have HL := Lib.hid hlog
      have HLT := Lib.hid (blk_lt hlog)
      have HD := Lib.hid (HH.out.later HBW.out)
      have hsa := row_srcAt HO.out HSLT.out hone'
      have HAP := Lib.hid (append wr S d m L room fuse down nNew _ xs (by decide) HD.out hf hf2 hr hr2 hsa HBY.out (by have := HCT.out; omega))
      obtain ⟨oa, oc, rfl⟩ := row_form HO.out
      obtain ⟨hf3, hf4⟩ := apF_ok (down := down) (s := nNew) hf hf2
      have HXL := Lib.hid (show xs.length ≤ 1000000000000 from HSM.out)
      clear hkn htk hxs hone' hlog hsa hf hf2 hr hr2 c3 c4 c5
      go_wp2_with fail
      refine HAP.out.mono ?_
      rintro e w5 ⟨L1, j, e1, rfl, ht1, hd1, hsay⟩
      have hl1 := (ht1.block l HLT.out HSL.out).trans HL.out
      have HL1 := Lib.hid hl1
      have HT1 := Lib.hid ht1
      have HD1 := Lib.hid hd1
      have HSAY := Lib.hid hsay
      have HWL := Lib.hid (show ¬ With S wr w5 l from with_not HLT.out HSL.out)
      have HL1L := Lib.hid (blk_lt hl1)
      clear c0
      obtain ⟨c0, _, _, c3, c4, c5⟩ := log_cells hl1
      have c5' := c5 3
      have c5'' := c5 4
      clear hl1 ht1 hd1 hsay c5
      by_cases he : e1 = 7
      · subst he
        go_wp2_with fail
        refine (remove w5 (With S wr w5) d m L1 room _ _ nNew (by decide) HD1.out hf3 hf4).mono ?_
        rintro e w6 ⟨rfl, ht2, _, hd2⟩
        have hl2 := (ht2.block l HL1L.out HWL.out).trans HL1.out
        have HL2 := Lib.hid hl2
        have HTT := Lib.hid (step_keep HT1.out ht2)
        have HDM := Lib.hid (disk_keep ht2 hd2)
        obtain ⟨e2, he2⟩ : ∃ z, chE L1 (apF fuse down nNew) (apD fuse down nNew) nNew = z := ⟨_, rfl⟩
        have HE2 := Lib.hid he2
        rw [he2]
        clear c0 c3 c4 c5' c5'' ht2 hd2 he2
        obtain ⟨c0, _, _, c3, c4, c5⟩ := log_cells hl2
        have c5'' := c5 4
        clear hl2 c5
        by_cases h2 : e2 = 0
        · subst h2
          go_wp2_with fail
          go_ret
          obtain ⟨g1, g2, g3⟩ := grow_end (b := false) HLT.out HSL.out HL2.out (turns_sl HTT.out) HDM.out
          rw [HXS.out]; exact AnewPost.of HBW.out ⟨_, _, _, 7, rfl, g1, g2, g3, L1, j, 7, HSAY.out, .inl ⟨rfl, rfl, rfl, rfl, by rw [HE2.out]; rfl⟩⟩
        · go_wp2_with fail
          go_ret
          obtain ⟨g1, g2, g3⟩ := grow_end (b := e2 == 8) HLT.out HSL.out HL2.out (turns_sl HTT.out) HDM.out
          rw [HXS.out]; exact AnewPost.of HBW.out ⟨_, _, _, e2, rfl, g1, g2, by rw [if_neg h2]; exact g3, L1, j, 7, HSAY.out, .inl ⟨rfl, rfl, rfl, rfl, by rw [HE2.out, if_neg h2]⟩⟩
      · by_cases he0 : e1 = 0
        · subst he0
          go_wp2_with fail
          refine (sync w5 (With S wr w5) d m L1 room _ _ nNew (by decide) HD1.out hf3 hf4).mono ?_
          rintro e w6 ⟨rfl, ht2, _, hd2⟩
          have hl2 := (ht2.block l HL1L.out HWL.out).trans HL1.out
          have HL2 := Lib.hid hl2
          have HTT := Lib.hid (step_keep HT1.out ht2)
          have HDM := Lib.hid (disk_keep ht2 hd2)
          obtain ⟨e2, he2⟩ : ∃ z, chE L1 (apF fuse down nNew) (apD fuse down nNew) nNew = z := ⟨_, rfl⟩
          have HE2 := Lib.hid he2
          rw [he2]
          clear c0 c3 c4 c5' c5'' ht2 hd2 he2
          obtain ⟨c0, _, _, c3, c4, c5⟩ := log_cells hl2
          have c5'' := c5 4
          clear hl2 c5
          by_cases h2 : e2 = 0
          · subst h2
            obtain ⟨hf5, hf6⟩ := chF_ok (L := L1) (down := apD fuse down nNew) (s := nNew) hf3 hf4
            go_wp2_with fail
            refine (rename w6 (With S wr w6) d m _ room _ _ nNew nWal (by decide) (by decide) HDM.out hf5 hf6 (by rw [syncL_len]; have h8 := says_len HSAY.out; have h9 := HCT.out; omega)).mono ?_
            rintro e w7 ⟨rfl, ht3, hd3⟩
            have hl3 := (ht3.block l (blk_lt HL2.out) (with_not HLT.out HSL.out)).trans HL2.out
            have HL3 := Lib.hid hl3
            have HT3 := Lib.hid (step_keep HTT.out ht3)
            have HD3 := Lib.hid (disk_keep ht3 hd3)
            obtain ⟨e3, he3⟩ : ∃ z, renE (syncL L1 (apF fuse down nNew) (apD fuse down nNew) nNew) (chF L1 (apF fuse down nNew) (apD fuse down nNew) nNew) (chD L1 (apF fuse down nNew) (apD fuse down nNew) nNew) nNew nWal = z := ⟨_, rfl⟩
            have HE3 := Lib.hid he3
            rw [he3]
            clear c0 c3 c4 c5'' ht3 hd3 he3
            obtain ⟨c0, _, _, c3, c4, c5⟩ := log_cells hl3
            have c5' := c5 3
            have c5'' := c5 4
            clear hl3 c5
            by_cases h3 : e3 = 0
            · subst h3
              go_wp2_with fail
              go_ret
              obtain ⟨g1, g2, g3⟩ := grow_end (b := false) HLT.out HSL.out (log_set3 (z := xs.length) HL3.out) (turns_log (turns_sl HT3.out)) (disk_log3 HD3.out HLT.out HSL.out)
              rw [HXS.out]; exact AnewPost.of HBW.out ⟨_, _, _, 0, rfl, g1, g2, g3, L1, j, 0, HSAY.out, .inr (.inr (.inl ⟨rfl, HE2.out, _, _, _, rfl, rfl, rfl, rfl, rfl, rfl, HE3.out.symm⟩))⟩
            · go_wp2_with fail
              go_ret
              obtain ⟨g1, g2, g3⟩ := grow_end (b := e3 == 8) HLT.out HSL.out HL3.out (turns_sl HT3.out) HD3.out
              rw [HXS.out]; exact AnewPost.of HBW.out ⟨_, _, _, e3, rfl, g1, g2, by rw [if_neg h3]; exact g3, L1, j, 0, HSAY.out, .inr (.inr (.inl ⟨rfl, HE2.out, _, _, _, rfl, rfl, rfl, rfl, rfl, rfl, HE3.out.symm⟩))⟩
          · go_wp2_with fail
            go_ret
            obtain ⟨g1, g2, g3⟩ := grow_end (b := e2 == 8) HLT.out HSL.out HL2.out (turns_sl HTT.out) HDM.out
            rw [HXS.out]; exact AnewPost.of HBW.out ⟨_, _, _, e2, rfl, g1, g2, by rw [if_neg h2]; exact g3, L1, j, 0, HSAY.out, .inr (.inl ⟨rfl, by rw [HE2.out]; exact h2, rfl, rfl, rfl, HE2.out.symm⟩)⟩
        · go_wp2_with fail
          go_ret
          obtain ⟨g1, g2, g3⟩ := grow_end (b := e1 == 8) HLT.out HSL.out HL1.out (turns_sl HT1.out) HD1.out
          rw [HXS.out]; exact AnewPost.of HBW.out ⟨_, _, _, e1, rfl, g1, g2, by rw [if_neg he0]; exact g3, L1, j, e1, HSAY.out, .inr (.inr (.inr ⟨he0, he, rfl, rfl, rfl, rfl⟩))⟩
end Go.Proofs.Ytjkgcpbgacdgaaa
