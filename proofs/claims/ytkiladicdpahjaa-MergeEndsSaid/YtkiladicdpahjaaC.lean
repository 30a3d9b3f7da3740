/- The walk of theirs: a list of files is copied. Condition: the reach of the form. -/
import Derived.Test.YtkiladicdpahjaaB
import Derived.Deep.RegionHeld3
import Derived.Deep.AppendLies
import Derived.StillTactics
namespace Go.Proofs.Ytkiladicdpahjaa
open Go.RowKit
theorem info31 : (Try.prog.info? 31).map (fun i => (i.zero, i.size, i.bytes)) = some (some (.agg #[.int .i64 0, .bool false]), 2, 16) := by kernel_rfl
def cellsOf (lv : Nat → Int) (tb : Nat → Bool) (k : Nat) : List Value := (List.range k).flatMap fun i => [.int .i64 (lv i), .bool (tb i)]
def InTheirs (lv : Nat → Int) (tb : Nat → Bool) (len : Nat) (w : World) (v i : Value) (wr : World) : Prop :=
  ∃ k : Nat, k ≤ len ∧ i = .int .i64 k ∧ wr.ownsRow w.heap.size 31 2 v k (cellsOf lv tb k) ∧ Below w.heap.size w wr
def Theirs (lv : Nat → Int) (tb : Nat → Bool) (len : Nat) (w : World) (e : Ending) (w' : World) : Prop :=
  ∃ v, e = .returned v ∧ w'.ownsRow w.heap.size 31 2 v len (cellsOf lv tb len) ∧ Below w.heap.size w w'
theorem own_ne {w : World} {base e size n b : Nat} {v : Value} {xs : List Value} (h : w.ownsRow base e size v n xs) (hb : b < base) : v.ownBlock ≠ some b := by
  rcases h.2 with ⟨rfl, _⟩ | ⟨g, cap, cur, rfl, hg, _⟩
  · simp [Value.ownBlock]
  · simp [Value.ownBlock]; omega
theorem own_ge {w : World} {base e size n b : Nat} {v : Value} {xs : List Value} (h : w.ownsRow base e size v n xs) (hb : v.ownBlock = some b) : base ≤ b := by
  rcases h.2 with ⟨rfl, _⟩ | ⟨g, cap, cur, rfl, hg, _⟩
  · simp [Value.ownBlock] at hb
  · simp [Value.ownBlock] at hb; omega
theorem cellsOf_succ (lv : Nat → Int) (tb : Nat → Bool) (k : Nat) : cellsOf lv tb (k + 1) = cellsOf lv tb k ++ [.int .i64 (lv k), .bool (tb k)] := by
  simp [cellsOf, List.range_succ]
theorem theirs (a : Option Addr) (len cap : Nat) (lv : Nat → Int) (tb : Nat → Bool) (w : World) (hlen : len * 16 ≤ 140737488351232)
    (hc : InfosAt w a len lv tb) :
    Calls Try.prog 7 #[.slice a len cap] w (Theirs lv tb len w) := by
  have HC := Lib.hid hc
  clear hc
  obtain ⟨i0, hi, hz0, hz1, hz2⟩ := info_parts info31
  have HI := Lib.hid hi
  have HZ0 := Lib.hid hz0
  have HZ1 := Lib.hid hz1
  have HZ2 := Lib.hid hz2
  clear hi hz0 hz1 hz2
  go_enter Try.func7, Try.ntmps7
  go_wp2
  go_loopw [3, 7] (fun v i wr => InTheirs lv tb len w v i wr) (fun _ i _ => len - (intOf i).toNat)
  case atStart => exact ⟨0, Nat.zero_le _, rfl, World.ownsRow_nil _ _ _ _, Below.refl _ _⟩
  case round =>
    obtain ⟨k, hk, rfl, hown, hb⟩ := hrel
    have HO := Lib.hid hown
    have HB := Lib.hid hb
    clear hown hb
    by_cases hlt : k < len
    · obtain ⟨b, off, ha, hbw, hc1, hc2⟩ := HC.out k hlt
      subst ha
      have hd1 : wr.cell? ⟨b, off + k * 2, none⟩ = some (.int .i64 (lv k)) := by rw [← hc1]; exact HB.out.cell hbw
      have hd2 : wr.cell? ⟨b, off + k * 2 + 1, none⟩ = some (.bool (tb k)) := by rw [← hc2]; exact HB.out.cell hbw
      clear hc1 hc2
      have hbr : b < wr.heap.size := Nat.lt_of_lt_of_le hbw HB.out.size
      have ak : u3.ownBlock ≠ some b := own_ne HO.out hbw
      have hk0 : (0 : Int) ≤ (k : Int) := by omega
      have hk1 : (k : Int) < (len : Int) := by omega
      go_wp2_with fail
      go_region_held3 (fun w' => w'.cell? ⟨b, off + k * 2, none⟩ = some (.int .i64 (lv k)) ∧ w'.cell? ⟨b, off + k * 2 + 1, none⟩ = some (.bool (tb k)))
        (first
          | go_keep
          | (go_split_ands
             refine ⟨?_, ?_⟩
             · (rw [hgrow.cell_far _ (by simp; omega) (Ne.symm ak)]; assumption)
             · (rw [hgrow.cell_far _ (by simp; omega) (Ne.symm ak)]; assumption)))
        ((refine step_append_lies _ (by rfl) _ _ _ (by rfl) w.heap.size 31 i0 _ 2 16 Try.underlying26 HI.out HZ0.out HZ1.out HZ2.out rfl (by omega) u3 k (cellsOf lv tb k) (by rfl) ((HO.out.alloc _).drew)
            ⟨wr.heap.size, 0, none⟩ 1 1 [.int .i64 (lv k), .bool (tb k)] (by rfl) (by rfl) (World.news_of_block (cs := #[.int .i64 (lv k), .bool (tb k)]) (t := 31) (fr := (0, 0)) (heap_alloc_new wr _)) (by simp [Value.oneCell'])
            (by omega) (by unfold maxLen; omega) (by omega) (by have := HB.out.size; simp; omega) (wr.heap.size + 1) (by simp) ?_; intro gg cap w1 hown1 hgrow hat hlt2))
      have HG := Lib.hid hgrow
      have HO1 := Lib.hid hown1
      clear hgrow hown1 hat hlt2
      go_wp2
      refine ⟨⟨k + 1, hlt, by go_num, by rw [cellsOf_succ]; exact HO1.out, ((HB.out.alloc HB.out.size _).drew).grown HG.out (by have := HB.out.size; simp; omega) (fun j hj => own_ge HO.out hj)⟩, ?_⟩
      simp [intOf]; omega
    · have hke : k = len := by omega
      have HKE := Lib.hid hke
      clear hke
      go_wp2
      go_ret
      exact ⟨_, rfl, by rw [← HKE.out]; exact HO.out, HB.out⟩
end Go.Proofs.Ytkiladicdpahjaa
