/- Add and Drop on a nil receiver. No condition. -/
import Derived.Test.YtobcpafalfdpkaaAG
import Derived.Deep.RegionLaw
namespace Go.Proofs.Ytobcpafalfdpkaa
open Go.RowKit Go.WideMaps Go.Sort
set_option maxRecDepth 100000 in
set_option maxHeartbeats 4000000 in
theorem add9nil {w : World} {v : Value} {s : Sr} (hv : SrIn w v s) :
    Calls Try.prog 9 #[.pointer none, v] w fun e w' => e = .returned (.tuple #[.bool false, .int .i64 1]) ∧ Below w.heap.size w w' := by
  obtain ⟨a, c, rfl, hac, hn63, htg, hnm, hsz⟩ := hv
  have hb1 := (Below.refl w.heap.size w).alloc (Nat.le_refl _) (.cells #[.string s.name, .slice a s.tags.length c] 31)
  have hx1 := heap_alloc_new w (.cells #[.string s.name, .slice a s.tags.length c] 31)
  obtain ⟨w1, hw1⟩ : ∃ w1, w.alloc (.cells #[.string s.name, .slice a s.tags.length c] 31) = w1 := ⟨_, rfl⟩
  rw [hw1] at hb1 hx1
  obtain ⟨xb, hxb⟩ : ∃ xb, w.heap.size = xb := ⟨_, rfl⟩
  rw [hxb] at hx1
  have hsr1 : SrIn w1 (.agg #[.string s.name, .slice a s.tags.length c]) s := SrIn.later ⟨a, c, rfl, hac, hn63, htg, hnm, hsz⟩ hb1
  have x0 : w1.cell? ⟨xb, 0, none⟩ = some (.string s.name) := by simp [World.cell?, hx1]
  have x1 : w1.cell? ⟨xb, 1, none⟩ = some (.slice a s.tags.length c) := by simp [World.cell?, hx1]
  have HT := Lib.hid (text28 hsr1)
  have HB1 := Lib.hid hb1
  have HX1 := Lib.hid hx1
  have HSZ1 := Lib.hid (show w.heap.size ≤ w1.heap.size from hb1.size)
  obtain ⟨n, hn⟩ : ∃ n, s.tags.length = n := ⟨_, rfl⟩
  rw [hn] at x1 HX1 HT
  rw [hn] at hw1 hn63
  clear hac htg hsz hb1 hx1 hsr1
  simp only [hn]
  go_enter Try.func9, Try.ntmps9
  go_wp2_with fail
  refine HT.out.mono ?_
  rintro e w2 ⟨rfl, hb2⟩
  have HB2 := Lib.hid (HB1.out.trans (hb2.mono HB1.out.size))
  clear hb2 x0 x1 hw1 hn hxb
  go_wp2_with fail
  go_ret2
  exact ⟨rfl, HB2.out⟩
set_option maxRecDepth 100000 in
set_option maxHeartbeats 4000000 in
theorem drop17nil {w : World} {v : Value} {s : Sr} (hv : SrIn w v s) :
    Calls Try.prog 17 #[.pointer none, v] w fun e w' => e = .returned (.bool false) ∧ Below w.heap.size w w' := by
  obtain ⟨a, c, rfl, hac, hn63, htg, hnm, hsz⟩ := hv
  have hb1 := (Below.refl w.heap.size w).alloc (Nat.le_refl _) (.cells #[.string s.name, .slice a s.tags.length c] 31)
  have hx1 := heap_alloc_new w (.cells #[.string s.name, .slice a s.tags.length c] 31)
  obtain ⟨w1, hw1⟩ : ∃ w1, w.alloc (.cells #[.string s.name, .slice a s.tags.length c] 31) = w1 := ⟨_, rfl⟩
  rw [hw1] at hb1 hx1
  obtain ⟨xb, hxb⟩ : ∃ xb, w.heap.size = xb := ⟨_, rfl⟩
  rw [hxb] at hx1
  have hsr1 : SrIn w1 (.agg #[.string s.name, .slice a s.tags.length c]) s := SrIn.later ⟨a, c, rfl, hac, hn63, htg, hnm, hsz⟩ hb1
  have x0 : w1.cell? ⟨xb, 0, none⟩ = some (.string s.name) := by simp [World.cell?, hx1]
  have x1 : w1.cell? ⟨xb, 1, none⟩ = some (.slice a s.tags.length c) := by simp [World.cell?, hx1]
  have HT := Lib.hid (text28 hsr1)
  have HB1 := Lib.hid hb1
  have HX1 := Lib.hid hx1
  have HSZ1 := Lib.hid (show w.heap.size ≤ w1.heap.size from hb1.size)
  obtain ⟨n, hn⟩ : ∃ n, s.tags.length = n := ⟨_, rfl⟩
  rw [hn] at x1 HX1 HT
  rw [hn] at hw1 hn63
  clear hac htg hsz hb1 hx1 hsr1
  cases hok : s.ok with
  | false =>
    have HTX := Lib.hid (no_tx hok)
    clear hok
    rw [HTX.out] at HT
    simp only [hn]
    go_enter Try.func17, Try.ntmps17
    go_wp2_with fail
    refine HT.out.mono ?_
    rintro e w2 ⟨rfl, hb2⟩
    have hx2 := (hb2.block xb (heap_lt HX1.out)).trans HX1.out
    have y0 : w2.cell? ⟨xb, 0, none⟩ = some (.string s.name) := by simp [World.cell?, hx2]
    have HB2 := Lib.hid (HB1.out.trans (hb2.mono HB1.out.size))
    clear hb2 x0 x1 hw1 hn hx2 hxb
    go_wp2_with fail
    refine (get32nil s.name w2).mono ?_
    intro e w3 hp
    unfold GotPost at hp
    obtain ⟨g, ga, gb, gc, he, hv, hb3⟩ := hp
    subst he
    have hblk := hv.blk
    have c0 : w3.cell? ⟨g, 0, none⟩ = some (.map ga) := by simp [World.cell?, hblk]
    have hlk := look68ok (a := ga) hv.ser ⟨#[]⟩ (Nat.zero_le _)
    have hlk' : (Instr.lookup 68 (.map ga) (.string ⟨#[]⟩) true).run Try.prog w3 = .ok (.tuple #[.agg #[.string ⟨#[]⟩, .slice none 0 0], .bool false]) w3 := hlk
    have HB3 := Lib.hid (HB2.out.trans (hb3.mono HB2.out.size))
    clear hblk hv hb3 y0 hlk
    go_wp2_with fail
    go_ret
    exact ⟨rfl, HB3.out.trans (((Below.refl _ _).alloc (Nat.le_refl _) _).mono HB3.out.size)⟩
  | true =>
    have HTX := Lib.hid (ok_tx hok)
    have HTS := Lib.hid (txt_size hok)
    obtain ⟨t, ht⟩ : ∃ t, s.txt = t := ⟨_, rfl⟩
    rw [ht] at HTX HTS
    clear hok ht
    rw [HTX.out] at HT
    simp only [hn]
    go_enter Try.func17, Try.ntmps17
    go_wp2_with fail
    refine HT.out.mono ?_
    rintro e w2 ⟨rfl, hb2⟩
    have hx2 := (hb2.block xb (heap_lt HX1.out)).trans HX1.out
    have y0 : w2.cell? ⟨xb, 0, none⟩ = some (.string s.name) := by simp [World.cell?, hx2]
    have HB2 := Lib.hid (HB1.out.trans (hb2.mono HB1.out.size))
    clear hb2 x0 x1 hw1 hn hx2 hxb
    go_wp2_with fail
    refine (get32nil s.name w2).mono ?_
    intro e w3 hp
    unfold GotPost at hp
    obtain ⟨g, ga, gb, gc, he, hv, hb3⟩ := hp
    subst he
    have hblk := hv.blk
    have c0 : w3.cell? ⟨g, 0, none⟩ = some (.map ga) := by simp [World.cell?, hblk]
    have hlk := look68ok (a := ga) hv.ser t (by unfold maxLen; have := HTS.out; omega)
    have hlk' : (Instr.lookup 68 (.map ga) (.string t) true).run Try.prog w3 = .ok (.tuple #[.agg #[.string ⟨#[]⟩, .slice none 0 0], .bool false]) w3 := hlk
    have HB3 := Lib.hid (HB2.out.trans (hb3.mono HB2.out.size))
    clear hblk hv hb3 y0 hlk
    go_wp2_with fail
    go_ret
    exact ⟨rfl, HB3.out.trans (((Below.refl _ _).alloc (Nat.le_refl _) _).mono HB3.out.size)⟩
end Go.Proofs.Ytobcpafalfdpkaa
