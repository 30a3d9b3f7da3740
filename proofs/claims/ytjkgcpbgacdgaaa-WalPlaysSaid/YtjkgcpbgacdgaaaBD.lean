/- Bytes laid behind the log's file: 'grow'. Conditions: the disk lies there whole, the log and the bytes apart from it. -/
import Derived.Test.YtjkgcpbgacdgaaaBC
namespace Go.Proofs.Ytjkgcpbgacdgaaa
open Go.RowKit
def nWal : ByteArray := ⟨#[119, 97, 108]⟩
def nNew : ByteArray := ⟨#[119, 97, 108, 46, 110, 101, 119]⟩
/-- The disk's blocks and the log's own. -/
def SL (S : Nat → Prop) (l : Nat) : Nat → Prop := fun k => S k ∨ k = l
theorem opF_ok {fuse : Int} (h : -1 ≤ fuse) (h2 : fuse < 2 ^ 63) : -1 ≤ opF fuse ∧ opF fuse < 2 ^ 63 := by unfold opF; split <;> omega
theorem apF_ok {fuse : Int} {down : Bool} {s : ByteArray} (h : -1 ≤ fuse) (h2 : fuse < 2 ^ 63) : -1 ≤ apF fuse down s ∧ apF fuse down s < 2 ^ 63 := by
  unfold apF; split
  · exact ⟨h, h2⟩
  · exact opF_ok h h2
theorem chF_ok {L : List Ent} {fuse : Int} {down : Bool} {s : ByteArray} (h : -1 ≤ fuse) (h2 : fuse < 2 ^ 63) : -1 ≤ chF L fuse down s ∧ chF L fuse down s < 2 ^ 63 := by
  unfold chF; split
  · exact opF_ok h h2
  · exact ⟨h, h2⟩
/-- What 'grow' does to the disk, and answers. -/
def GrowSays (L : List Ent) (room fuse : Int) (down : Bool) (sz : Int) (xs : List Value) (L' : List Ent) (fuse' : Int) (down' : Bool) (e : Int) : Prop :=
  ∃ L1 j e1, AppSays L room fuse down nWal xs L1 j e1 ∧
    ((e1 = 7 ∧ 0 < j ∧ L' = cutL L1 (apF fuse down nWal) (apD fuse down nWal) nWal sz ∧ fuse' = cutF L1 (apF fuse down nWal) (apD fuse down nWal) nWal sz ∧ down' = cutD L1 (apF fuse down nWal) (apD fuse down nWal) nWal sz ∧ e = (if cutE L1 (apF fuse down nWal) (apD fuse down nWal) nWal sz = 0 then 7 else cutE L1 (apF fuse down nWal) (apD fuse down nWal) nWal sz)) ∨
     (e1 = 0 ∧ L' = syncL L1 (apF fuse down nWal) (apD fuse down nWal) nWal ∧ fuse' = chF L1 (apF fuse down nWal) (apD fuse down nWal) nWal ∧ down' = chD L1 (apF fuse down nWal) (apD fuse down nWal) nWal ∧ e = chE L1 (apF fuse down nWal) (apD fuse down nWal) nWal) ∨
     (e1 ≠ 0 ∧ (e1 = 7 → j = 0) ∧ L' = L1 ∧ fuse' = apF fuse down nWal ∧ down' = apD fuse down nWal ∧ e = e1))
def GrowPost (w : World) (S : Nat → Prop) (d m l : Nat) (first : Int) (lv : Value) (size : Int) (L : List Ent) (room fuse : Int) (down : Bool) (xs : List Value) (e : Ending) (w' : World) : Prop :=
  ∃ L' fuse' down' er, e = .returned (.int .i64 er) ∧ Turns (SL S l) w w' ∧ DiskAt w' (With S w w') d m L' room fuse' down' ∧ w'.heap[l]? = some (logO d first lv (if er = 0 then size + xs.length else size) (er == 8)) ∧ GrowSays L room fuse down size xs L' fuse' down' er
theorem turns_log {w w1 : World} {S : Nat → Prop} {l i : Nat} {u : Value} (ht : Turns (SL S l) w w1) : Turns (SL S l) w (w1.setCell ⟨l, i, none⟩ u) :=
  ⟨ht.os, ht.tape, ht.output, by have := ht.size; simpa using this, fun k hk hn => (log_other fun e => hn (.inr e)).trans (ht.block k hk hn)⟩
theorem turns_sl {w w1 : World} {S : Nat → Prop} {l : Nat} (ht : Turns S w w1) : Turns (SL S l) w w1 := ⟨ht.os, ht.tape, ht.output, ht.size, fun k hk hn => ht.block k hk fun e => hn (.inl e)⟩
theorem disk_log {w : World} {S : Nat → Prop} {d m l i : Nat} {L : List Ent} {room fuse : Int} {down : Bool} {u : Value} (h : DiskAt w S d m L room fuse down) (hl : ¬ S l) : DiskAt (w.setCell ⟨l, i, none⟩ u) S d m L room fuse down :=
  h.same fun k hk => log_other fun e => hl (e ▸ hk)
theorem with_not {S : Nat → Prop} {w w1 : World} {l : Nat} (hl : l < w.heap.size) (hS : ¬ S l) : ¬ With S w w1 l := fun h => by
  rcases h with h | h
  · exact hS h
  · omega
/-- The end of a walk: the log's two fields written, the disk as it is. -/
theorem grow_end {w w2 : World} {S : Nat → Prop} {d m l : Nat} {first z : Int} {lv : Value} {L' : List Ent} {room fuse' : Int} {down' : Bool} {over b : Bool} (hl : l < w.heap.size) (hS : ¬ S l) (hb : w2.heap[l]? = some (logO d first lv z over)) (ht : Turns (SL S l) w w2) (hd : DiskAt w2 (With S w w2) d m L' room fuse' down') :
    Turns (SL S l) w (w2.setCell ⟨l, 4, none⟩ (.bool b)) ∧ DiskAt (w2.setCell ⟨l, 4, none⟩ (.bool b)) (With S w (w2.setCell ⟨l, 4, none⟩ (.bool b))) d m L' room fuse' down' ∧ (w2.setCell ⟨l, 4, none⟩ (.bool b)).heap[l]? = some (logO d first lv z b) :=
  ⟨turns_log ht, (disk_log hd (with_not hl hS)).more fun k hk => by
    rcases hk with hk | hk
    · exact .inl hk
    · exact .inr (by simpa using hk), log_set4 hb⟩
set_option maxHeartbeats 4000000 in
set_option maxRecDepth 100000 in
theorem grow (w : World) (S : Nat → Prop) (d m l : Nat) (first : Int) (lv : Value) (size : Int) (over : Bool) (L : List Ent) (room fuse : Int) (down : Bool) (v : Value) (xs : List Value) (hlog : w.heap[l]? = some (logO d first lv size over)) (hSl : ¬ S l)
    (h : DiskAt w S d m L room fuse down) (hf : -1 ≤ fuse) (hf2 : fuse < 2 ^ 63) (hr : 0 ≤ room) (hr2 : room < 2 ^ 63) (hsrc : SrcAt w S v xs) (hbytes : lens L + xs.length ≤ 140737488355328) (hcount : L.length < maxLen) (hsz : 0 ≤ size ∧ size ≤ 140737488355328) :
    Calls Try.prog 44 #[.pointer (some ⟨l, 0, none⟩), v] w (GrowPost w S d m l first lv size L room fuse down xs) := by
  obtain ⟨a, c, rfl, hac⟩ := hsrc.form
  obtain ⟨c0, c1, c2, c3, c4, c5⟩ := log_cells hlog
  have HL := Lib.hid hlog
  have HSL := Lib.hid hSl
  have HLT := Lib.hid (blk_lt hlog)
  have HXL := Lib.hid (show xs.length ≤ 140737488355328 by omega)
  have hap := append w S d m L room fuse down nWal _ xs (by decide) h hf hf2 hr hr2 hsrc hbytes hcount
  have HAP := Lib.hid hap
  obtain ⟨hf3, hf4⟩ := apF_ok (down := down) (s := nWal) hf hf2
  clear hlog hSl h hf hf2 hr hr2 hsrc hbytes hcount hap hac c1 c2 c4
  go_enter Try.func44, Try.ntmps44
  go_wp2_with fail
  refine HAP.out.mono ?_
  rintro e w1 ⟨L1, j, e1, rfl, ht1, hd1, hsay⟩
  have hl1 := (ht1.block l HLT.out HSL.out).trans HL.out
  have HL1 := Lib.hid hl1
  have HT1 := Lib.hid ht1
  have HD1 := Lib.hid hd1
  have HSAY := Lib.hid hsay
  clear c0 c3 c5
  obtain ⟨c0, c1, c2, c3, c4, c5⟩ := log_cells hl1
  have c5' := c5 3
  have c5'' := c5 4
  clear hl1 ht1 hd1 hsay c5 c1 c2
  have hwl : ¬ With S w w1 l := with_not HLT.out HSL.out
  have HWL := Lib.hid hwl
  have HL1L := Lib.hid (Nat.lt_of_lt_of_le HLT.out HT1.out.size)
  clear hwl
  by_cases he : e1 = 7
  · subst he
    by_cases hj : 0 < j
    · have HJ := Lib.hid hj
      have HDD := Lib.hid (show DiskAt w1.drew (With S w w1) d m L1 room (apF fuse down nWal) (apD fuse down nWal) from HD1.out.same fun _ _ => rfl)
      go_wp2_with fail
      go_region_held3 (fun w' => w'.cell? ⟨l, 0, none⟩ = some (.pointer (some ⟨d, 0, none⟩)) ∧ w'.cell? ⟨l, 3, none⟩ = some (.int .i64 size)) (first | exact HS2.out | go_keep)
        (first
          | (go_at_call 14; refine (cut _ (With S w w1) d m L1 room _ _ nWal size (by decide) HDD.out hf3 hf4).mono ?_; rintro e w2 ⟨rfl, ht2, _, hd2⟩; have HT2 := Lib.hid ht2; have HD2 := Lib.hid hd2; have HL2 := Lib.hid ((ht2.block l HL1L.out HWL.out).trans HL1.out); have HS2 := Lib.hid (And.intro (log_cells HL2.out).1 (log_cells HL2.out).2.2.2.1); clear ht2 hd2))
      clear c0 c3 c4 c5' c5''
      obtain ⟨c0, _, _, c3, c4, c5⟩ := log_cells HL2.out
      have c5'' := c5 4
      clear c5
      have htt : Turns S w w2 := HT1.out.trans (b := w1) ⟨HT2.out.os, HT2.out.tape, HT2.out.output, HT2.out.size, HT2.out.block⟩ fun x hx => by
        rcases hx with hx | hx
        · exact .inl hx
        · exact .inr hx.1
      have HTT := Lib.hid htt
      have HDM := Lib.hid (HD2.out.more (S' := With S w w2) fun k hk => by
        have := HT2.out.size
        rcases hk with hk | hk
        · exact .inl hk
        · exact .inr ⟨hk.1, Nat.lt_of_lt_of_le hk.2 HT2.out.size⟩)
      obtain ⟨e2, he2⟩ : ∃ z, cutE L1 (apF fuse down nWal) (apD fuse down nWal) nWal size = z := ⟨_, rfl⟩
      have HE2 := Lib.hid he2
      rw [he2]
      clear htt he2
      by_cases h2 : e2 = 0
      · subst h2
        go_wp2_with fail
        go_ret
        obtain ⟨g1, g2, g3⟩ := grow_end (b := false) HLT.out HSL.out HL2.out (turns_sl HTT.out) HDM.out
        exact ⟨_, _, _, 7, rfl, g1, g2, g3, L1, j, 7, HSAY.out, .inl ⟨rfl, HJ.out, rfl, rfl, rfl, by rw [HE2.out]; rfl⟩⟩
      · go_wp2_with fail
        go_ret
        obtain ⟨g1, g2, g3⟩ := grow_end (b := e2 == 8) HLT.out HSL.out HL2.out (turns_sl HTT.out) HDM.out
        exact ⟨_, _, _, e2, rfl, g1, g2, by rw [if_neg h2]; exact g3, L1, j, 7, HSAY.out, .inl ⟨rfl, HJ.out, rfl, rfl, rfl, by rw [HE2.out, if_neg h2]⟩⟩
    · have HJ := Lib.hid hj
      go_wp2_with fail
      go_ret
      obtain ⟨g1, g2, g3⟩ := grow_end (b := false) HLT.out HSL.out HL1.out (turns_sl HT1.out) HD1.out
      exact ⟨_, _, _, 7, rfl, g1, g2, g3, L1, j, 7, HSAY.out, .inr (.inr ⟨by decide, fun _ => by have := HJ.out; omega, rfl, rfl, rfl, rfl⟩)⟩
  · by_cases he0 : e1 = 0
    · subst he0
      go_wp2_with fail
      refine (sync w1 (With S w w1) d m L1 room _ _ nWal (by decide) HD1.out hf3 hf4).mono ?_
      rintro e w2 ⟨rfl, ht2, _, hd2⟩
      have hl2 := (ht2.block l HL1L.out HWL.out).trans HL1.out
      have HL2 := Lib.hid hl2
      have HT2 := Lib.hid ht2
      have HD2 := Lib.hid hd2
      clear c0 c3 c4 c5' c5'' hl2 ht2 hd2
      obtain ⟨c0, _, _, c3, c4, c5⟩ := log_cells HL2.out
      have c5' := c5 3
      have c5'' := c5 4
      clear c5
      have htt : Turns S w w2 := HT1.out.trans (b := w1) HT2.out fun x hx => by
        rcases hx with hx | hx
        · exact .inl hx
        · exact .inr hx.1
      have HTT := Lib.hid htt
      have HDM := Lib.hid (HD2.out.more (S' := With S w w2) fun k hk => by
        rcases hk with hk | hk
        · exact .inl hk
        · exact .inr ⟨hk.1, Nat.lt_of_lt_of_le hk.2 HT2.out.size⟩)
      obtain ⟨e2, he2⟩ : ∃ z, chE L1 (apF fuse down nWal) (apD fuse down nWal) nWal = z := ⟨_, rfl⟩
      have HE2 := Lib.hid he2
      rw [he2]
      clear htt he2
      by_cases h2 : e2 = 0
      · subst h2
        have hxl := HXL.out
        go_wp2_with fail
        go_ret
        have hd3 := (disk_log (i := 3) (u := .int .i64 (size + xs.length)) HDM.out (with_not HLT.out HSL.out)).more (S' := With S w (w2.setCell ⟨l, 3, none⟩ (.int .i64 (size + xs.length)))) fun k hk => by
          rcases hk with hk | hk
          · exact .inl hk
          · exact .inr (by simpa using hk)
        obtain ⟨g1, g2, g3⟩ := grow_end (b := false) HLT.out HSL.out (log_set3 (z := size + xs.length) HL2.out) (turns_log (turns_sl HTT.out)) hd3
        exact ⟨_, _, _, 0, rfl, g1, g2, g3, L1, j, 0, HSAY.out, .inr (.inl ⟨rfl, rfl, rfl, rfl, HE2.out.symm⟩)⟩
      · go_wp2_with fail
        go_ret
        obtain ⟨g1, g2, g3⟩ := grow_end (b := e2 == 8) HLT.out HSL.out HL2.out (turns_sl HTT.out) HDM.out
        exact ⟨_, _, _, e2, rfl, g1, g2, by rw [if_neg h2]; exact g3, L1, j, 0, HSAY.out, .inr (.inl ⟨rfl, rfl, rfl, rfl, HE2.out.symm⟩)⟩
    · go_wp2_with fail
      go_ret
      obtain ⟨g1, g2, g3⟩ := grow_end (b := e1 == 8) HLT.out HSL.out HL1.out (turns_sl HT1.out) HD1.out
      exact ⟨_, _, _, e1, rfl, g1, g2, by rw [if_neg he0]; exact g3, L1, j, e1, HSAY.out, .inr (.inr ⟨he0, fun h => absurd h he, rfl, rfl, rfl, rfl⟩)⟩
end Go.Proofs.Ytjkgcpbgacdgaaa
