/- The walk of Aggregate at integers. Condition: how many there are. -/
import Derived.Test.YtcpnmpemgkbanaaGreatDoorG
import Derived.Lib.ItoaMem
namespace Go.Proofs.YtcpnmpemgkbanaaGreatDoor
open Go.RowKit Go.Sort
def nmsC : Array Value := #[.string ⟨#[67, 79, 85, 78, 84]⟩, .string ⟨#[83, 85, 77]⟩, .string ⟨#[77, 69, 65, 78]⟩, .string ⟨#[77, 73, 78]⟩, .string ⟨#[77, 65, 88]⟩, .string ⟨#[70, 73, 82, 83, 84]⟩, .string ⟨#[76, 65, 83, 84]⟩, .string ⟨#[87, 65, 86, 69]⟩]
def allNames : ByteArray := ⟨#[67, 79, 85, 78, 84, 32, 83, 85, 77, 32, 77, 69, 65, 78, 32, 77, 73, 78, 32, 77, 65, 88, 32, 70, 73, 82, 83, 84, 32, 76, 65, 83, 84, 32, 87, 65, 86, 69]⟩
theorem fields_len : (Lib.fields allNames.data.toList).length = 8 := by kernel_rfl
theorem fields_are : ((Lib.fields allNames.data.toList).map fun l => Value.string ⟨l.toArray⟩).toArray = nmsC := by kernel_rfl
theorem fields_ascii : ∀ (j : Nat) b, allNames.data.toList[j]? = some b → b.toNat < 128 := by
  intro j b h
  have h1 : allNames.data.toList.all (fun b => decide (b.toNat < 128)) = true := by kernel_rfl
  exact of_decide_eq_true (List.all_eq_true.1 h1 b (List.mem_of_getElem? h))
theorem fields_call (w : World) (htab : Lib.TabIs Tryz.prog w "strings.asciiSpace" .u8 Lib.asciiSpaceTab) :
    Calls Tryz.prog 18 #[.string allNames] w fun e w' => e = .returned (.slice (some ⟨w.heap.size, 0, none⟩) 8 8) ∧ w' = w.alloc (.cells nmsC 9) := by
  have h := Tryz.strings_Fields allNames w (by decide) fields_ascii htab
  rw [fields_len, fields_are] at h
  exact h
def z3 : Array Value := #[.int .i64 0, .int .u64 0, .string ⟨#[]⟩]
/-- On the way through Aggregate: the two blocks of its own. -/
structure Ag (W wr : World) : Prop where
  below : Below W.heap.size W wr
  res : wr.heap[W.heap.size]? = some (.cells z3 27 (0, 0))
  non : wr.heap[W.heap.size + 1]? = some (.cells z3 27 (0, 0))
section
variable {W w' w2 : World}
theorem Ag.later (h : Ag W w') (hb : Below w'.heap.size w' w2) : Ag W w2 :=
  ⟨h.below.trans (hb.mono h.below.size), (hb.block _ (heap_lt h.res)).trans h.res, (hb.block _ (heap_lt h.non)).trans h.non⟩
theorem Ag.turned (h : Ag W w') {s : Nat} (ht : Turns (fun k => k = s) w' w2) (hs : W.heap.size + 1 < s) : Ag W w2 :=
  ⟨h.below.trans (ht.below h.below.size (fun x hx => by omega)), (ht.block _ (heap_lt h.res) (by omega)).trans h.res, (ht.block _ (heap_lt h.non) (by omega)).trans h.non⟩
end
theorem results9 (tmps : Array Value) (w : World) (B : Nat) (x y z : Value) (hb : tmps.getD 4 undef = .pointer (some ⟨B, 0, none⟩)) (h : w.cell? ⟨B, 0, none⟩ = some x ∧ w.cell? ⟨B, 1, none⟩ = some y ∧ w.cell? ⟨B, 2, none⟩ = some z) :
    (results Tryz.f9 tmps).run Tryz.prog w = .ok (.tuple #[.agg #[x, y, z], tmps.getD 5 undef, tmps.getD 6 undef]) w := by
  have hb' : tmps[4]?.getD undef = .pointer (some ⟨B, 0, none⟩) := by simpa using hb
  simp [results, hb', h.1, h.2.1, h.2.2, go_sem]
theorem set3 {w : World} {B : Nat} {a b c : Value} {t : TypeId} (h : w.heap[B]? = some (.cells #[a, b, c] t (0, 0))) (x y z : Value) :
    (((w.setCell ⟨B, 0, none⟩ x).setCell ⟨B, 1, none⟩ y).setCell ⟨B, 2, none⟩ z).cell? ⟨B, 0, none⟩ = some x ∧ (((w.setCell ⟨B, 0, none⟩ x).setCell ⟨B, 1, none⟩ y).setCell ⟨B, 2, none⟩ z).cell? ⟨B, 1, none⟩ = some y ∧
      (((w.setCell ⟨B, 0, none⟩ x).setCell ⟨B, 1, none⟩ y).setCell ⟨B, 2, none⟩ z).cell? ⟨B, 2, none⟩ = some z := by
  have h1 : (((w.setCell ⟨B, 0, none⟩ x).setCell ⟨B, 1, none⟩ y).setCell ⟨B, 2, none⟩ z).heap[B]? = some (.cells #[x, y, z] t (0, 0)) := by
    simp [World.setCell, Array.getElem?_modify, h]
  simp [World.cell?, h1]
theorem below_set3 {W w : World} (h : Below W.heap.size W w) (x y z : Value) : Below W.heap.size W (((w.setCell ⟨W.heap.size, 0, none⟩ x).setCell ⟨W.heap.size, 1, none⟩ y).setCell ⟨W.heap.size, 2, none⟩ z) :=
  ((h.setCell (Nat.le_refl _) _).setCell (Nat.le_refl _) _).setCell (Nat.le_refl _) _
def AggPost (W : World) (k b : Int) (ok : Bool) (e : Ending) (w' : World) : Prop := e = .returned (.tuple #[.agg #[.int .i64 k, .int .u64 b, .string ⟨#[]⟩], .bool ok, .int .i64 0]) ∧ Below W.heap.size W w'
def InAg1 (W : World) (n : Nat) (kn i : Value) (wr : World) : Prop := ∃ k : Nat, k ≤ n ∧ i = .int .i64 k ∧ kn = .bool true ∧ Ag W wr
def InAg2 (W : World) (n s : Nat) (zs : List Int) (i : Value) (wr : World) : Prop := ∃ (k : Nat) (cs : Array Value), k ≤ n ∧ i = .int .i64 k ∧ Ag W wr ∧ wr.heap[s]? = some (.cells cs 53 (0, 0)) ∧ StAt (zs.take k) cs
theorem take_snocI (zs : List Int) (k : Nat) (v : Int) (h : zs[k]? = some v) : zs.take (k + 1) = zs.take k ++ [v] := by
  have hk : k < zs.length := by
    rcases Nat.lt_or_ge k zs.length with h1 | h1
    · exact h1
    · rw [List.getElem?_eq_none h1] at h; cases h
  rw [List.take_succ_eq_append_getElem hk]
  rw [List.getElem?_eq_getElem hk] at h
  injection h with h
  rw [h]
set_option maxRecDepth 100000 in
set_option maxHeartbeats 2000000 in
theorem agg_SUM_nil (W : World) (A : Option Addr) (n c : Nat) (zs : List Int) (hz : zs.length = n) (hin : ∀ v ∈ zs, inI v) (hn : n < 4611686018427387904) (hn1 : n = 0) (hv : Vals W A n zs) (htab : Lib.TabIs Tryz.prog W "strings.asciiSpace" .u8 Lib.asciiSpaceTab) :
    Calls Tryz.prog 9 #[.string ⟨#[83, 85, 77]⟩, .slice A n c] W (AggPost W 0 0 false) := by
  have hn2 : n ≤ 0 := by omega
  clear hn1
  have HTAB := Lib.hid (Lib.tabIs_alloc (Lib.tabIs_alloc htab (.cells z3 27)) (.cells z3 27))
  have HV := Lib.hid hv
  have HZ := Lib.hid hz
  have HIN := Lib.hid hin
  clear htab hv hz hin
  unfold z3 at HTAB
  go_enter Tryz.func9, Tryz.ntmps9
  go_wp2_with fail
  refine (fields_call _ HTAB.out).mono ?_
  rintro e w1 ⟨rfl, rfl⟩
  have HA1 := Lib.hid (show Ag W (((W.alloc (.cells #[.int .i64 0, .int .u64 0, .string ⟨#[]⟩] 27)).alloc (.cells #[.int .i64 0, .int .u64 0, .string ⟨#[]⟩] 27)).alloc (.cells nmsC 9)) from by
    have h0 : Below W.heap.size W (W.alloc (.cells z3 27)) := (Below.refl _ _).alloc (Nat.le_refl _) _
    have h1 : Ag W ((W.alloc (.cells z3 27)).alloc (.cells z3 27)) := ⟨h0.alloc (by simp) _, (Below.heap_alloc _ _ _ (by simp)).trans (heap_alloc_new W _), by have := heap_alloc_new (W.alloc (.cells z3 27)) (.cells z3 27); simpa using this⟩
    exact h1.later ((Below.refl _ _).alloc (Nat.le_refl _) _))
  go_wp2_with fail
  refine wp_gen (fun wr => Ag W wr ∧ wr.heap[W.heap.size + 1 + 1]? = some (.cells nmsC 9 (0, 0))) ⟨HA1.out, ?_⟩ ?_
  · have := heap_alloc_new ((W.alloc (.cells z3 27)).alloc (.cells z3 27)) (.cells nmsC 9)
    have e : ((W.alloc (.cells z3 27)).alloc (.cells z3 27)).heap.size = W.heap.size + 1 + 1 := by simp
    rw [e] at this
    exact this
  clear HTAB HA1
  rintro w1 ⟨hA, hC⟩
  have HA := Lib.hid hA
  unfold nmsC at hC
  have n0 : w1.cell? ⟨W.heap.size + 1 + 1, 0, none⟩ = some (.string ⟨#[67, 79, 85, 78, 84]⟩) := by simp [World.cell?, hC]
  have n1 : w1.cell? ⟨W.heap.size + 1 + 1, 1, none⟩ = some (.string ⟨#[83, 85, 77]⟩) := by simp [World.cell?, hC]
  have n2 : w1.cell? ⟨W.heap.size + 1 + 1, 2, none⟩ = some (.string ⟨#[77, 69, 65, 78]⟩) := by simp [World.cell?, hC]
  have n3 : w1.cell? ⟨W.heap.size + 1 + 1, 3, none⟩ = some (.string ⟨#[77, 73, 78]⟩) := by simp [World.cell?, hC]
  have n4 : w1.cell? ⟨W.heap.size + 1 + 1, 4, none⟩ = some (.string ⟨#[77, 65, 88]⟩) := by simp [World.cell?, hC]
  have n5 : w1.cell? ⟨W.heap.size + 1 + 1, 5, none⟩ = some (.string ⟨#[70, 73, 82, 83, 84]⟩) := by simp [World.cell?, hC]
  have n6 : w1.cell? ⟨W.heap.size + 1 + 1, 6, none⟩ = some (.string ⟨#[76, 65, 83, 84]⟩) := by simp [World.cell?, hC]
  have n7 : w1.cell? ⟨W.heap.size + 1 + 1, 7, none⟩ = some (.string ⟨#[87, 65, 86, 69]⟩) := by simp [World.cell?, hC]
  clear hA hC
  go_loop [8, 18] (fun kn i => ∃ k : Nat, k ≤ 8 ∧ i = .int .i64 k ∧ kn = .bool (decide (1 < k))) (fun _ i => 8 - (intOf i).toNat)
  case atStart => exact ⟨0, by omega, rfl, rfl⟩
  case round =>
    obtain ⟨k, hk, rfl, rfl⟩ := hrel
    have hcase : k = 0 ∨ k = 1 ∨ k = 2 ∨ k = 3 ∨ k = 4 ∨ k = 5 ∨ k = 6 ∨ k = 7 ∨ k = 8 := by omega
    rcases hcase with rfl | rfl | rfl | rfl | rfl | rfl | rfl | rfl | rfl
    · have hd : decide (1 < 0) = false := by decide
      rw [hd]
      clear hd
      go_wp2_with fail
      go_round
      case rel => exact ⟨1, by omega, by go_num, rfl⟩
      case measure => decide
    · have hd : decide (1 < 1) = false := by decide
      rw [hd]
      clear hd
      go_wp2_with fail
      go_round
      case rel => exact ⟨2, by omega, by go_num, rfl⟩
      case measure => decide
    · have hd : decide (1 < 2) = true := by decide
      rw [hd]
      clear hd
      go_wp2_with fail
      go_round
      case rel => exact ⟨3, by omega, by go_num, rfl⟩
      case measure => decide
    · have hd : decide (1 < 3) = true := by decide
      rw [hd]
      clear hd
      go_wp2_with fail
      go_round
      case rel => exact ⟨4, by omega, by go_num, rfl⟩
      case measure => decide
    · have hd : decide (1 < 4) = true := by decide
      rw [hd]
      clear hd
      go_wp2_with fail
      go_round
      case rel => exact ⟨5, by omega, by go_num, rfl⟩
      case measure => decide
    · have hd : decide (1 < 5) = true := by decide
      rw [hd]
      clear hd
      go_wp2_with fail
      go_round
      case rel => exact ⟨6, by omega, by go_num, rfl⟩
      case measure => decide
    · have hd : decide (1 < 6) = true := by decide
      rw [hd]
      clear hd
      go_wp2_with fail
      go_round
      case rel => exact ⟨7, by omega, by go_num, rfl⟩
      case measure => decide
    · have hd : decide (1 < 7) = true := by decide
      rw [hd]
      clear hd
      go_wp2_with fail
      go_round
      case rel => exact ⟨8, by omega, by go_num, rfl⟩
      case measure => decide
    -- the names are looked through
    have hd : decide (1 < 8) = true := by decide
    rw [hd]
    clear n0 n1 n2 n3 n4 n5 n6 n7 hd
    go_wp2_with fail
    go_loopw [8, 31] (fun kn i wr => InAg1 W n kn i wr) (fun _ i _ => n - (intOf i).toNat)
    case atStart => exact ⟨0, Nat.zero_le _, rfl, rfl, HA.out⟩
    case round =>
      obtain ⟨k, hk, rfl, rfl, hA⟩ := hrel
      have HA2 := Lib.hid hA
      clear hA
      by_cases hlt : k < n
      · exact absurd hlt (by omega)
      · have hkn : k = n := by omega
        obtain rfl : n = k := hkn.symm
        have hn0 : ((n : Int) == 0) = true := by simp; omega
        have hA := HA2.out
        have r0 : wr.cell? ⟨W.heap.size, 0, none⟩ = some (.int .i64 0) := by have := hA.res; simp [World.cell?, this, z3]
        have r1 : wr.cell? ⟨W.heap.size, 1, none⟩ = some (.int .u64 0) := by have := hA.res; simp [World.cell?, this, z3]
        have r2 : wr.cell? ⟨W.heap.size, 2, none⟩ = some (.string ⟨#[]⟩) := by have := hA.res; simp [World.cell?, this, z3]
        have rz : ∀ i, wr.frozen? ⟨W.heap.size, i, none⟩ = false := fun i => by have := hA.res; simp [World.frozen?, this]
        have q0 : wr.cell? ⟨W.heap.size + 1, 0, none⟩ = some (.int .i64 0) := by have := hA.non; simp [World.cell?, this, z3]
        have q1 : wr.cell? ⟨W.heap.size + 1, 1, none⟩ = some (.int .u64 0) := by have := hA.non; simp [World.cell?, this, z3]
        have q2 : wr.cell? ⟨W.heap.size + 1, 2, none⟩ = some (.string ⟨#[]⟩) := by have := hA.non; simp [World.cell?, this, z3]
        have hsz : W.heap.size < wr.heap.size := heap_lt hA.res
        clear hA
        go_wp2_with fail
        refine bodyPost_ret (results9 _ _ W.heap.size _ _ _ rfl (set3 HA2.out.res _ _ _)) rfl ⟨rfl, below_set3 HA2.out.below _ _ _⟩
set_option maxRecDepth 100000 in
set_option maxHeartbeats 2000000 in
theorem agg_SUM (W : World) (A : Option Addr) (n c : Nat) (zs : List Int) (hz : zs.length = n) (hin : ∀ v ∈ zs, inI v) (hn : n < 4611686018427387904) (hn1 : 1 ≤ n) (hv : Vals W A n zs) (htab : Lib.TabIs Tryz.prog W "strings.asciiSpace" .u8 Lib.asciiSpaceTab) :
    Calls Tryz.prog 9 #[.string ⟨#[83, 85, 77]⟩, .slice A n c] W (AggPost W 2 (wsum zs) true) := by
  have HTAB := Lib.hid (Lib.tabIs_alloc (Lib.tabIs_alloc htab (.cells z3 27)) (.cells z3 27))
  have HV := Lib.hid hv
  have HZ := Lib.hid hz
  have HIN := Lib.hid hin
  clear htab hv hz hin
  unfold z3 at HTAB
  go_enter Tryz.func9, Tryz.ntmps9
  go_wp2_with fail
  refine (fields_call _ HTAB.out).mono ?_
  rintro e w1 ⟨rfl, rfl⟩
  have HA1 := Lib.hid (show Ag W (((W.alloc (.cells #[.int .i64 0, .int .u64 0, .string ⟨#[]⟩] 27)).alloc (.cells #[.int .i64 0, .int .u64 0, .string ⟨#[]⟩] 27)).alloc (.cells nmsC 9)) from by
    have h0 : Below W.heap.size W (W.alloc (.cells z3 27)) := (Below.refl _ _).alloc (Nat.le_refl _) _
    have h1 : Ag W ((W.alloc (.cells z3 27)).alloc (.cells z3 27)) := ⟨h0.alloc (by simp) _, (Below.heap_alloc _ _ _ (by simp)).trans (heap_alloc_new W _), by have := heap_alloc_new (W.alloc (.cells z3 27)) (.cells z3 27); simpa using this⟩
    exact h1.later ((Below.refl _ _).alloc (Nat.le_refl _) _))
  go_wp2_with fail
  refine wp_gen (fun wr => Ag W wr ∧ wr.heap[W.heap.size + 1 + 1]? = some (.cells nmsC 9 (0, 0))) ⟨HA1.out, ?_⟩ ?_
  · have := heap_alloc_new ((W.alloc (.cells z3 27)).alloc (.cells z3 27)) (.cells nmsC 9)
    have e : ((W.alloc (.cells z3 27)).alloc (.cells z3 27)).heap.size = W.heap.size + 1 + 1 := by simp
    rw [e] at this
    exact this
  clear HTAB HA1
  rintro w1 ⟨hA, hC⟩
  have HA := Lib.hid hA
  unfold nmsC at hC
  have n0 : w1.cell? ⟨W.heap.size + 1 + 1, 0, none⟩ = some (.string ⟨#[67, 79, 85, 78, 84]⟩) := by simp [World.cell?, hC]
  have n1 : w1.cell? ⟨W.heap.size + 1 + 1, 1, none⟩ = some (.string ⟨#[83, 85, 77]⟩) := by simp [World.cell?, hC]
  have n2 : w1.cell? ⟨W.heap.size + 1 + 1, 2, none⟩ = some (.string ⟨#[77, 69, 65, 78]⟩) := by simp [World.cell?, hC]
  have n3 : w1.cell? ⟨W.heap.size + 1 + 1, 3, none⟩ = some (.string ⟨#[77, 73, 78]⟩) := by simp [World.cell?, hC]
  have n4 : w1.cell? ⟨W.heap.size + 1 + 1, 4, none⟩ = some (.string ⟨#[77, 65, 88]⟩) := by simp [World.cell?, hC]
  have n5 : w1.cell? ⟨W.heap.size + 1 + 1, 5, none⟩ = some (.string ⟨#[70, 73, 82, 83, 84]⟩) := by simp [World.cell?, hC]
  have n6 : w1.cell? ⟨W.heap.size + 1 + 1, 6, none⟩ = some (.string ⟨#[76, 65, 83, 84]⟩) := by simp [World.cell?, hC]
  have n7 : w1.cell? ⟨W.heap.size + 1 + 1, 7, none⟩ = some (.string ⟨#[87, 65, 86, 69]⟩) := by simp [World.cell?, hC]
  clear hA hC
  go_loop [8, 18] (fun kn i => ∃ k : Nat, k ≤ 8 ∧ i = .int .i64 k ∧ kn = .bool (decide (1 < k))) (fun _ i => 8 - (intOf i).toNat)
  case atStart => exact ⟨0, by omega, rfl, rfl⟩
  case round =>
    obtain ⟨k, hk, rfl, rfl⟩ := hrel
    have hcase : k = 0 ∨ k = 1 ∨ k = 2 ∨ k = 3 ∨ k = 4 ∨ k = 5 ∨ k = 6 ∨ k = 7 ∨ k = 8 := by omega
    rcases hcase with rfl | rfl | rfl | rfl | rfl | rfl | rfl | rfl | rfl
    · have hd : decide (1 < 0) = false := by decide
      rw [hd]
      clear hd
      go_wp2_with fail
      go_round
      case rel => exact ⟨1, by omega, by go_num, rfl⟩
      case measure => decide
    · have hd : decide (1 < 1) = false := by decide
      rw [hd]
      clear hd
      go_wp2_with fail
      go_round
      case rel => exact ⟨2, by omega, by go_num, rfl⟩
      case measure => decide
    · have hd : decide (1 < 2) = true := by decide
      rw [hd]
      clear hd
      go_wp2_with fail
      go_round
      case rel => exact ⟨3, by omega, by go_num, rfl⟩
      case measure => decide
    · have hd : decide (1 < 3) = true := by decide
      rw [hd]
      clear hd
      go_wp2_with fail
      go_round
      case rel => exact ⟨4, by omega, by go_num, rfl⟩
      case measure => decide
    · have hd : decide (1 < 4) = true := by decide
      rw [hd]
      clear hd
      go_wp2_with fail
      go_round
      case rel => exact ⟨5, by omega, by go_num, rfl⟩
      case measure => decide
    · have hd : decide (1 < 5) = true := by decide
      rw [hd]
      clear hd
      go_wp2_with fail
      go_round
      case rel => exact ⟨6, by omega, by go_num, rfl⟩
      case measure => decide
    · have hd : decide (1 < 6) = true := by decide
      rw [hd]
      clear hd
      go_wp2_with fail
      go_round
      case rel => exact ⟨7, by omega, by go_num, rfl⟩
      case measure => decide
    · have hd : decide (1 < 7) = true := by decide
      rw [hd]
      clear hd
      go_wp2_with fail
      go_round
      case rel => exact ⟨8, by omega, by go_num, rfl⟩
      case measure => decide
    -- the names are looked through
    have hd : decide (1 < 8) = true := by decide
    rw [hd]
    clear n0 n1 n2 n3 n4 n5 n6 n7 hd
    go_wp2_with fail
    go_loopw [8, 31] (fun kn i wr => InAg1 W n kn i wr) (fun _ i _ => n - (intOf i).toNat)
    case atStart => exact ⟨0, Nat.zero_le _, rfl, rfl, HA.out⟩
    case round =>
      obtain ⟨k, hk, rfl, rfl, hA⟩ := hrel
      have HA2 := Lib.hid hA
      clear hA
      by_cases hlt : k < n
      · obtain ⟨b, off, v, rfl, hbw, hzk, hc0, hc1, hc2⟩ := HV.out k hlt
        obtain ⟨b', off', v0, hA0, hbw', hz0, hk0, hk1, hk2⟩ := HV.out 0 (by omega)
        cases hA0
        have HF := Lib.hid (fun w => (formed_int v w).mono fun e w' (h : e = _ ∧ _) => (⟨h.1, by rw [h.2]; exact (Below.refl _ _).alloc (Nat.le_refl _) _⟩ : e = _ ∧ Below w.heap.size w w'))
        obtain ⟨u, hu⟩ : ∃ u, uw v = u := ⟨_, rfl⟩
        unfold vInt at HF
        rw [hu] at HF hc1
        have hcell : ∀ o x, W.cell? ⟨b, o, none⟩ = some x → wr.cell? ⟨b, o, none⟩ = some x := fun o x h => (HA2.out.below.cell (p := ⟨b, o, none⟩) hbw).trans h
        have d0 := hcell _ _ hc0
        have d1 := hcell _ _ hc1
        have d2 := hcell _ _ hc2
        have d3 := hcell _ _ hk0
        rw [Nat.zero_mul, Nat.add_zero] at d3
        have hbr : b < wr.heap.size := Nat.lt_of_lt_of_le hbw HA2.out.below.size
        clear hc0 hc1 hc2 hk0 hk1 hk2 hz0 hbw hbw' hcell hu hzk
        obtain ⟨Wv, hWv⟩ : ∃ Wv, Wv = wr.alloc (.cells #[.int .i64 2, .int .u64 u, .string ⟨#[]⟩] 27) := ⟨_, rfl⟩
        have f0 := cell_regrown (show Wv.cell? ⟨wr.heap.size, 0, none⟩ = some (.int .i64 2) by rw [hWv]; simp)
        have f1 := cell_regrown (show Wv.cell? ⟨wr.heap.size, 1, none⟩ = some (.int .u64 u) by rw [hWv]; simp)
        have f2 := cell_regrown (show Wv.cell? ⟨wr.heap.size, 2, none⟩ = some (.string ⟨#[]⟩) by rw [hWv]; simp)
        have f3 := cell_regrown (show Wv.cell? ⟨b, off, none⟩ = some (.int .i64 2) by rw [hWv]; rw [World.cell?_alloc_lt wr _ _ hbr]; exact d3)
        have cF := fun d os => Calls.regrown_of (HF.out (grow (redrawn Wv d) os))
        have hlow : (0 : Int) < n := by omega
        have HW := Lib.hid hWv
        clear hWv
        go_wp2_with fail
        rw [← HW.out]
        refine wp_region_quiet_below (by kernel_rfl) (by kernel_rfl) ?_
        repeat (go_big_quiet_step ((first | with_reducible exact cF _ _)))
        refine wpQuiet_nil ?_
        intro w3 hw3
        have hb3 := below_of_regrown hw3
        have HA3 := Lib.hid ((HA2.out.later ((Below.refl _ _).alloc (Nat.le_refl _) _)).later (by rw [← HW.out]; exact hb3))
        clear hw3 hb3 f0 f1 f2 f3 cF d0 d1 d2 d3
        go_wp2_with fail
        go_roundw
        case rel => exact ⟨k + 1, by omega, by go_num, rfl, HA3.out⟩
        case measure => simp [intOf]; omega
      · have hkn : k = n := by omega
        obtain rfl : n = k := hkn.symm
        have hn0 : ((n : Int) == 0) = false := by simp; omega
        obtain ⟨b, off, v0, hA0, hbw, hz0, hk0, hk1, hk2⟩ := HV.out 0 hn1
        cases hA0
        have d3 : wr.cell? ⟨b, off + 0 * 3, none⟩ = some (.int .i64 2) := (HA2.out.below.cell (p := ⟨b, off + 0 * 3, none⟩) hbw).trans hk0
        rw [Nat.zero_mul, Nat.add_zero] at d3
        have hn0 : ((n : Int) == 0) = false := by simp; omega
        have hlow : (0 : Int) < n := by omega
        clear hk0 hk1 hk2 hz0
        go_wp2_with fail
        refine wp_gen (fun w2 => Ag W w2 ∧ w2.heap[wr.heap.size]? = some (.cells (stA 0 0 0 0 0 0 0 0 0) 53 (0, 0))) ⟨HA2.out.later ((Below.refl _ _).alloc (Nat.le_refl _) _), heap_alloc_new wr _⟩ ?_
        rintro w2 ⟨hA3, hS3⟩
        have HA3 := Lib.hid hA3
        have HS3 := Lib.hid hS3
        obtain ⟨s, hs⟩ : ∃ s, wr.heap.size = s := ⟨_, rfl⟩
        rw [hs] at HS3
        have hsn : W.heap.size + 1 < s := by have := heap_lt HA2.out.non; omega
        have HSS := Lib.hid hs
        clear hA3 hS3 d3
        have hw2 : w2.heap.size = w2.heap.size := rfl
        clear hw2
        rw [HSS.out]
        go_loopw [97] (fun i wq => InAg2 W n s zs i wq) (fun i _ => n - (intOf i).toNat)
        case atStart => exact ⟨0, _, Nat.zero_le _, rfl, HA3.out, HS3.out, stAt_nil⟩
        case round =>
          obtain ⟨j, cs, hj, rfl, hA, hS, hst⟩ := hrel
          have HA4 := Lib.hid hA
          have HS4 := Lib.hid hS
          have HST := Lib.hid hst
          clear hA hS hst HA2 HA3 HS3 HSS
          by_cases hlt2 : j < n
          · obtain ⟨b', off', v, hA0, hbw', hzk, hc0, hc1, hc2⟩ := HV.out j hlt2
            cases hA0
            have hv : inI v := HIN.out v (List.mem_of_getElem? hzk)
            have HTK := Lib.hid (take_snocI zs j v hzk)
            have HVI := Lib.hid hv
            obtain ⟨u, hu⟩ : ∃ u, uw v = u := ⟨_, rfl⟩
            rw [hu] at hc1
            have d0 : wr.cell? ⟨b, off + j * 3, none⟩ = some (.int .i64 2) := (HA4.out.below.cell (p := ⟨b, off + j * 3, none⟩) hbw).trans hc0
            have d1 : wr.cell? ⟨b, off + j * 3 + 1, none⟩ = some (.int .u64 u) := (HA4.out.below.cell (p := ⟨b, off + j * 3 + 1, none⟩) hbw).trans hc1
            have d2 : wr.cell? ⟨b, off + j * 3 + 2, none⟩ = some (.string ⟨#[]⟩) := (HA4.out.below.cell (p := ⟨b, off + j * 3 + 2, none⟩) hbw).trans hc2
            have HU := Lib.hid hu
            clear hc0 hc1 hc2 hzk hv hu
            go_wp2_with fail
            have HTA := take_any (wr.alloc (.cells #[.int .i64 2, .int .u64 u, .string ⟨#[]⟩] 27)) s (zs.take j) v cs (fun x hx => HIN.out x (List.mem_of_mem_take hx)) HVI.out (by rw [List.length_take]; omega) ((Below.heap_alloc _ _ s (heap_lt HS4.out)).trans HS4.out) HST.out
            unfold vInt at HTA
            rw [HU.out] at HTA
            refine HTA.mono ?_
            clear HTA
            rintro e w5 ⟨cs', hst', he, ht5, hs5⟩
            subst he
            have HA5 := Lib.hid ((HA4.out.later ((Below.refl _ _).alloc (Nat.le_refl _) _)).turned ht5 hsn)
            have HS5 := Lib.hid hs5
            have HST5 := Lib.hid hst'
            clear ht5 hs5 hst' d0 d1 d2
            go_wp2_with fail
            go_roundw
            case rel => exact ⟨j + 1, cs', by omega, by go_num, HA5.out, HS5.out, by rw [HTK.out]; exact HST5.out⟩
            case measure => simp [intOf]; omega
          · have hjn : j = n := by omega
            have HTT := Lib.hid (show zs.take j = zs by rw [hjn, List.take_of_length_le (by rw [HZ.out]; omega)])
            obtain ⟨re, im, _, _, _, hcs⟩ := HST.out
            rw [HTT.out] at hcs
            have hne : zs ≠ [] := by
              intro h0
              have := HZ.out
              rw [h0] at this
              simp at this
              omega
            rcases hcs with ⟨h0, _⟩ | ⟨_, hcs⟩
            · exact absurd h0 hne
            rw [HZ.out] at hcs
            have hS := HS4.out
            rw [hcs] at hS
            unfold stA at hS
            obtain ⟨fs, hfs⟩ : ∃ fs, fsum zs = fs := ⟨_, rfl⟩
            obtain ⟨ws, hws⟩ : ∃ ws, wsum zs = ws := ⟨_, rfl⟩
            obtain ⟨lo, hlo⟩ : ∃ lo, uw (lowL zs) = lo := ⟨_, rfl⟩
            obtain ⟨hi, hhi⟩ : ∃ hi, uw (highL zs) = hi := ⟨_, rfl⟩
            rw [hfs, hws, hlo, hhi] at hS
            have HQ := Lib.hid hws
            have s0 : wr.cell? ⟨s, 0, none⟩ = some (.int .i64 (n : Nat)) := by simp [World.cell?, hS]
            have s1 : wr.cell? ⟨s, 1, none⟩ = some (.float .f64 fs) := by simp [World.cell?, hS]
            have s2 : wr.cell? ⟨s, 2, none⟩ = some (.int .u64 ws) := by simp [World.cell?, hS]
            have s4 : wr.cell? ⟨s, 4, none⟩ = some (.int .i64 2) := by simp [World.cell?, hS]
            have s5 : wr.cell? ⟨s, 5, none⟩ = some (.int .u64 lo) := by simp [World.cell?, hS]
            have s6 : wr.cell? ⟨s, 6, none⟩ = some (.string ⟨#[]⟩) := by simp [World.cell?, hS]
            have s7 : wr.cell? ⟨s, 7, none⟩ = some (.int .i64 2) := by simp [World.cell?, hS]
            have s8 : wr.cell? ⟨s, 8, none⟩ = some (.int .u64 hi) := by simp [World.cell?, hS]
            have s9 : wr.cell? ⟨s, 9, none⟩ = some (.string ⟨#[]⟩) := by simp [World.cell?, hS]
            have d3 : wr.cell? ⟨b, off + 0 * 3, none⟩ = some (.int .i64 2) := by
              obtain ⟨b', off', v, hA0, hbw', hzk, hc0, hc1, hc2⟩ := HV.out 0 hn1
              cases hA0
              exact (HA4.out.below.cell (p := ⟨b, off + 0 * 3, none⟩) hbw).trans hc0
            rw [Nat.zero_mul, Nat.add_zero] at d3
            have r0 : wr.cell? ⟨W.heap.size, 0, none⟩ = some (.int .i64 0) := by have := HA4.out.res; simp [World.cell?, this, z3]
            have r1 : wr.cell? ⟨W.heap.size, 1, none⟩ = some (.int .u64 0) := by have := HA4.out.res; simp [World.cell?, this, z3]
            have r2 : wr.cell? ⟨W.heap.size, 2, none⟩ = some (.string ⟨#[]⟩) := by have := HA4.out.res; simp [World.cell?, this, z3]
            have rz : ∀ i, wr.frozen? ⟨W.heap.size, i, none⟩ = false := fun i => by have := HA4.out.res; simp [World.frozen?, this]
            clear hS hcs hfs hws hlo hhi hne hjn
            go_wp2_with fail
            refine bodyPost_ret (results9 _ _ W.heap.size _ _ _ rfl (set3 HA4.out.res _ _ _)) rfl ⟨by rw [HQ.out]; rfl, below_set3 HA4.out.below _ _ _⟩
end Go.Proofs.YtcpnmpemgkbanaaGreatDoor
