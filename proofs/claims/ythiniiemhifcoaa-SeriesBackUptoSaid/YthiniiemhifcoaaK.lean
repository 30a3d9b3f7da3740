/- A tag by its key by the reference; the walk of SeriesTags. Condition: none but the form's. -/
import Derived.Test.YthiniiemhifcoaaJ
namespace Go.Proofs.Ythiniiemhifcoaa
open Go.RowKit Go.Sort Go.Deep Go.WideShapes Go.ChangeShapes Go.Joins
open Go.ChangeMaps (open_string)
def InRTag (n cap : Nat) (a : Option Addr) (kf : Nat → ByteArray) (key : ByteArray) (w : World) (i : Value) (wr : World) : Prop := ∃ k : Nat, k ≤ n ∧ i = .int .i64 k ∧ (∀ j, j < k → keyAt kf key j = false) ∧ Below w.heap.size w wr ∧ wr.cell? ⟨w.heap.size, 1, none⟩ = some (.slice a n cap)
theorem rtag (name : ByteArray) (a : Option Addr) (n cap : Nat) (kf vf : Nat → ByteArray) (key : ByteArray) (w : World) (hn : n < 2 ^ 63) (ht : TagsAt w a n kf vf) :
    Calls Try.prog 17 #[.agg #[.string name, .slice a n cap], .string key] w (Answer (.tuple #[.string (tagB n kf vf key).1, .bool (tagB n kf vf key).2]) w) := by
  have HT := Lib.hid ht
  clear ht
  go_enter Try.func17, Try.ntmps17
  go_wp2_with fail
  go_loopw [10] (fun i wr => InRTag n cap a kf key w i wr) (fun i _ => n - (intOf i).toNat)
  case atStart => exact ⟨0, Nat.zero_le _, rfl, fun j hj => absurd hj (by omega), (Below.refl _ _).alloc (Nat.le_refl _) _, by simp⟩
  case round =>
    obtain ⟨k, hk, rfl, hno, hb, hc1⟩ := hrel
    have HN := Lib.hid hno
    have HB := Lib.hid hb
    have hc1' := hc1
    have hsz := World.block_lt_of_cell? wr _ hc1
    simp only at hsz
    clear hno hb
    by_cases hlt : k < n
    · obtain ⟨b, off, ha, hbw, hck, hcv⟩ := HT.out k hlt
      subst ha
      have hd1 : wr.cell? ⟨b, off + k * 2, none⟩ = some (.string (kf k)) := by rw [← hck]; exact HB.out.cell hbw
      have hd2 : wr.cell? ⟨b, off + k * 2 + 1, none⟩ = some (.string (vf k)) := by rw [← hcv]; exact HB.out.cell hbw
      have HC1 := Lib.hid hc1'
      clear hck hcv hc1'
      cases e1 : keyAt kf key k with
      | true =>
        have HF := Lib.hid (findB_some hlt e1 HN.out)
        have HE : ((kf k).toList == key.toList) = true := e1
        clear e1
        go_wp2_with fail
        go_ret2
        exact ⟨by simp [tagB, HF.out], HB.out⟩
      | false =>
        have HE : ((kf k).toList == key.toList) = false := e1
        have HE1 := Lib.hid e1
        clear e1
        go_wp2_with fail
        go_roundw
        case rel => exact ⟨k + 1, hlt, by go_num, fun j hj => by
          by_cases h : j = k
          · rw [h]; exact HE1.out
          · exact HN.out j (by omega), HB.out, HC1.out⟩
        case measure => simp [intOf]; omega
    · have hke : k = n := by omega
      have HF := Lib.hid (findB_none (n := n) (kf := kf) (key := key) (fun j hj => HN.out j (by omega)))
      clear hke
      go_wp2_with fail
      go_ret2
      exact ⟨by simp [tagB, HF.out], HB.out⟩
def Pick (n : Nat) (kf : Nat → ByteArray) (key key' : ByteArray) : Prop := key' = key ∨ ∃ i, i < n ∧ key' = kf i
set_option maxHeartbeats 1000000 in
theorem seriesTags_walk (H : Type) (enc : TypeId × Value → H) (W : World) (base : Nat) (v0 v1 v2 : Value) (d0 d1 d2 : DataW H) (p0 p1 p2 : List MemPlace) (h0 : DataW.Trod enc Try.prog W 0 (fun _ => true) true 24 v0 d0 p0) (o0 : Value.okWide Try.prog W .any base 24 v0) (h1 : DataW.Trod enc Try.prog W 0 (fun _ => true) true 9 v1 d1 p1) (o1 : Value.okWide Try.prog W .any base 9 v1) (h2 : DataW.Trod enc Try.prog W 0 (fun _ => true) true 3 v2 d2 p2) (o2 : Value.okWide Try.prog W .any base 3 v2) :
    Calls Try.prog 5 #[v0, v1, v2] W fun e w' => e = .returned (.bool true) ∧ Below W.heap.size W w' := by
  obtain ⟨na, a, n, cap, kf, vf, rfl, hna, hn, hta, hsa⟩ := series_open h0 o0
  obtain ⟨key, rfl, rfl, rfl, wk⟩ := open_string Try.underlying9 o1 h1
  obtain ⟨x, rfl, rfl, rfl, wx⟩ := open_int Try.underlying3 o2 h2
  have HTA := Lib.hid hta
  clear h0 o0 h1 o1 h2 o2 hta hsa
  go_enter Try.func5, Try.ntmps5
  go_wp2_with fail
  refine (awake _).mono ?_
  rintro e w1 ⟨rfl, hb⟩
  have k0 : w1.cell? ⟨W.heap.size, 0, none⟩ = some (.string na) := (hb.cell (by simp)).trans (by simp)
  have k1 : w1.cell? ⟨W.heap.size, 1, none⟩ = some (.slice a n cap) := (hb.cell (by simp)).trans (by simp)
  have hsz : W.heap.size < w1.heap.size := by have := hb.size; simp at this; omega
  have hb1 : Below W.heap.size W w1 := ((Below.refl _ _).alloc (Nat.le_refl _) _).trans (hb.mono (by simp))
  have HB1 := Lib.hid hb1
  clear hb hb1
  --WALK
  by_cases hlt : 0 < n
  · cases ev : (x.tmod 2 == 0) with
    | false =>
      go_wp2_with fail
      refine (tag na a n cap kf vf key w1 hn (by exact HTA.out.later HB1.out)).mono ?_
      rintro e w2 ⟨rfl, hb⟩
      have l0 : w2.cell? ⟨W.heap.size, 0, none⟩ = some (.string na) := (hb.cell hsz).trans k0
      have l1 : w2.cell? ⟨W.heap.size, 1, none⟩ = some (.slice a n cap) := (hb.cell hsz).trans k1
      have hsz2 : W.heap.size < w2.heap.size := Nat.lt_of_lt_of_le hsz hb.size
      have hb1 : Below W.heap.size W w2 := HB1.out.trans (hb.mono (Nat.le_of_lt hsz))
      have HB2 := Lib.hid hb1
      clear hb hb1 k0 k1 hsz
      go_wp2_with fail
      refine (rtag na a n cap kf vf key w2 hn (by exact HTA.out.later HB2.out)).mono ?_
      rintro e w3 ⟨rfl, hb⟩
      have HB3 := Lib.hid (show Below W.heap.size W w3 from HB2.out.trans (hb.mono (by omega)))
      clear hb l0 l1 hsz2
      have HQ : ((tagB n kf vf key).1.toList == (tagB n kf vf key).1.toList) = true := by simp
      have HQ2 : ((tagB n kf vf key).2 == (tagB n kf vf key).2) = true := by simp
      go_wp2_with fail
      go_ret
      exact ⟨by simp, HB3.out⟩
    | true =>
      have hu0 : (0 : Int) ≤ IntKind.u64.wrap x := by simp only [IntKind.wrap, IntKind.bits, IntKind.signed]; simp; omega
      have hwn : IntKind.u64.wrap (n : Int) = n := by simp only [IntKind.wrap, IntKind.bits, IntKind.signed]; simp; omega
      have hnz : ((n : Int) == 0) = false := by simp; omega
      obtain ⟨m, hmn, hm⟩ : ∃ m : Nat, m < n ∧ (IntKind.u64.wrap x).tmod (n : Int) = m := by
        refine ⟨(IntKind.u64.wrap x).toNat % n, Nat.mod_lt _ hlt, ?_⟩
        rw [Int.tmod_eq_emod_of_nonneg hu0]
        have := Int.toNat_of_nonneg hu0
        rw [← this]
        simp
      have hwm : IntKind.u64.wrap (m : Int) = m := by simp only [IntKind.wrap, IntKind.bits, IntKind.signed]; simp; omega
      have hwm2 : IntKind.i64.wrap (m : Int) = m := by simp only [IntKind.wrap, IntKind.bits, IntKind.signed]; simp; omega
      have hm0 : (0 : Int) ≤ (m : Int) := by omega
      have hm1 : (m : Int) < (n : Int) := by omega
      have hmt : (m : Int).toNat = m := by simp
      obtain ⟨b, off, ha, hbw, hck, hcv⟩ := HTA.out m hmn
      subst ha
      have hd1 : w1.cell? ⟨b, off + m * 2, none⟩ = some (.string (kf m)) := by rw [← hck]; exact HB1.out.cell hbw
      clear hck hcv
      go_wp2_with fail
      go_quiet (fail)
      go_wp2_with fail
      refine (tag na (some ⟨b, off, none⟩) n cap kf vf (kf m) _ hn (by exact HTA.out.later (below_drewN HB1.out _))).mono ?_
      rintro e w2 ⟨rfl, hb⟩
      have l0 : w2.cell? ⟨W.heap.size, 0, none⟩ = some (.string na) := (hb.cell hsz).trans k0
      have l1 : w2.cell? ⟨W.heap.size, 1, none⟩ = some (.slice (some ⟨b, off, none⟩) n cap) := (hb.cell hsz).trans k1
      have hsz2 : W.heap.size < w2.heap.size := Nat.lt_of_lt_of_le hsz hb.size
      have hb1 : Below W.heap.size W w2 := (below_drewN HB1.out _).trans (hb.mono (Nat.le_of_lt hsz))
      have HB2 := Lib.hid hb1
      clear hb hb1 k0 k1 hsz
      go_wp2_with fail
      refine (rtag na (some ⟨b, off, none⟩) n cap kf vf (kf m) w2 hn (by exact HTA.out.later HB2.out)).mono ?_
      rintro e w3 ⟨rfl, hb⟩
      have HB3 := Lib.hid (show Below W.heap.size W w3 from HB2.out.trans (hb.mono (by omega)))
      clear hb l0 l1 hsz2
      have HQ : ((tagB n kf vf (kf m)).1.toList == (tagB n kf vf (kf m)).1.toList) = true := by simp
      have HQ2 : ((tagB n kf vf (kf m)).2 == (tagB n kf vf (kf m)).2) = true := by simp
      go_wp2_with fail
      go_ret
      exact ⟨by simp, HB3.out⟩
  · go_wp2_with fail
    refine (tag na a n cap kf vf key w1 hn (by exact HTA.out.later HB1.out)).mono ?_
    rintro e w2 ⟨rfl, hb⟩
    have l0 : w2.cell? ⟨W.heap.size, 0, none⟩ = some (.string na) := (hb.cell hsz).trans k0
    have l1 : w2.cell? ⟨W.heap.size, 1, none⟩ = some (.slice a n cap) := (hb.cell hsz).trans k1
    have hsz2 : W.heap.size < w2.heap.size := Nat.lt_of_lt_of_le hsz hb.size
    have hb1 : Below W.heap.size W w2 := HB1.out.trans (hb.mono (Nat.le_of_lt hsz))
    have HB2 := Lib.hid hb1
    clear hb hb1 k0 k1 hsz
    go_wp2_with fail
    refine (rtag na a n cap kf vf key w2 hn (by exact HTA.out.later HB2.out)).mono ?_
    rintro e w3 ⟨rfl, hb⟩
    have HB3 := Lib.hid (show Below W.heap.size W w3 from HB2.out.trans (hb.mono (by omega)))
    clear hb l0 l1 hsz2
    have HQ : ((tagB n kf vf key).1.toList == (tagB n kf vf key).1.toList) = true := by simp
    have HQ2 : ((tagB n kf vf key).2 == (tagB n kf vf key).2) = true := by simp
    go_wp2_with fail
    go_ret
    exact ⟨by simp, HB3.out⟩
end Go.Proofs.Ythiniiemhifcoaa
