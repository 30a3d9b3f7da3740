/- Tokens turned into the reference's, and two lists of the same tokens held against each other; what a program that does nothing answers wrongly. No condition. -/
import Derived.Test.YtcmdcdjclmpncaaP
import Derived.StillTailTactics
namespace Go.Proofs.Ytcmdcdjclmpncaa
open Go.RowKit
def InSame (n : Nat) (w : World) (i : Value) (wr : World) : Prop := ∃ k : Nat, k ≤ n ∧ i = .int .i64 k ∧ Below w.heap.size w wr
theorem same10 (a a' : Option Addr) (L : List Tok) (cap cap' : Nat) (w : World) (hn : L.length < 2 ^ 63) (ht : ToksAt w a L) (ht' : ToksAt w a' L) :
    Calls Try.prog 10 #[.slice a L.length cap, .slice a' L.length cap'] w fun e w' => e = .returned (.bool true) ∧ Below w.heap.size w w' := by
  have HT := Lib.hid ht
  have HT' := Lib.hid ht'
  obtain ⟨n, hnl⟩ : ∃ n, L.length = n := ⟨_, rfl⟩
  rw [hnl] at hn ⊢
  have HN := Lib.hid hnl
  clear ht ht' hnl
  go_enter Try.func10, Try.ntmps10
  go_wp2
  go_loopw [13] (fun i wr => InSame n w i wr) (fun i _ => n - (intOf i).toNat)
  case atStart => exact ⟨0, Nat.zero_le _, rfl, Below.refl _ _⟩
  case round =>
    obtain ⟨k, hk, rfl, hb⟩ := hrel
    have HB := Lib.hid hb
    clear hb
    by_cases hlt : k < n
    · obtain ⟨b, off, ha, hbw, c0, c1, c2⟩ := HT.out k (by rw [HN.out]; exact hlt)
      obtain ⟨b', off', ha', hbw', c0', c1', c2'⟩ := HT'.out k (by rw [HN.out]; exact hlt)
      subst ha
      subst ha'
      have d0 : wr.cell? ⟨b, off + k * 3, none⟩ = _ := (HB.out.cell hbw).trans c0
      have d1 : wr.cell? ⟨b, off + k * 3 + 1, none⟩ = _ := (HB.out.cell hbw).trans c1
      have d2 : wr.cell? ⟨b, off + k * 3 + 2, none⟩ = _ := (HB.out.cell hbw).trans c2
      have d3 : wr.cell? ⟨b', off' + k * 3, none⟩ = _ := (HB.out.cell hbw').trans c0'
      have d4 : wr.cell? ⟨b', off' + k * 3 + 1, none⟩ = _ := (HB.out.cell hbw').trans c1'
      have d5 : wr.cell? ⟨b', off' + k * 3 + 2, none⟩ = _ := (HB.out.cell hbw').trans c2'
      clear c0 c1 c2 c0' c1' c2'
      generalize (tokAt L k).1 = x0 at d0 d3
      generalize (tokAt L k).2.1 = x1 at d1 d4
      generalize (tokAt L k).2.2 = x2 at d2 d5
      have hi0 : (0 : Int) ≤ (k : Int) := by omega
      have hi1 : (k : Int) < (n : Int) := by omega
      go_wp2_with fail
      go_quiet (fail)
      go_wp2
      go_roundw
      case rel => exact ⟨k + 1, hlt, by go_num, below_drewN HB.out _⟩
      case measure => simp [intOf]; omega
    · have hke : k = n := by omega
      clear hke
      go_wp2
      go_ret
      exact ⟨rfl, HB.out⟩
def InOurs (L : List Tok) (w : World) (v i : Value) (wr : World) : Prop :=
  ∃ k : Nat, k ≤ L.length ∧ i = .int .i64 k ∧ wr.ownsRow w.heap.size 41 3 v k (tokCells (L.take k)) ∧ Below w.heap.size w wr
theorem tokAt_get {L : List Tok} {i : Nat} (h : i < L.length) : tokAt L i = L[i] := by simp [tokAt, List.getD, h]
theorem take_tok (L : List Tok) (k : Nat) (h : k < L.length) : L.take (k + 1) = L.take k ++ [tokAt L k] := by
  rw [List.take_succ_eq_append_getElem h, tokAt_get h]
set_option maxHeartbeats 1000000 in
theorem ours11 (a : Option Addr) (L : List Tok) (cap : Nat) (w : World) (hn : L.length ≤ 1048576) (ht : ToksAt w a L) :
    Calls Try.prog 11 #[.slice a L.length cap] w fun e w' => Below w.heap.size w w' ∧ ∃ a' cap', e = .returned (.slice a' L.length cap') ∧ ToksAt w' a' L := by
  obtain ⟨i0, hi, hz0, hz1, hz2⟩ := info_parts info41
  have HI := Lib.hid hi
  have HZ0 := Lib.hid hz0
  have HZ1 := Lib.hid hz1
  have HZ2 := Lib.hid hz2
  clear hi hz0 hz1 hz2
  have HT := Lib.hid ht
  obtain ⟨n, hnl⟩ : ∃ n, L.length = n := ⟨_, rfl⟩
  rw [hnl] at hn ⊢
  have HN := Lib.hid hnl
  clear ht hnl
  go_enter Try.func11, Try.ntmps11
  go_wp2
  go_loopw [3, 7] (fun v i wr => InOurs L w v i wr) (fun _ i _ => n - (intOf i).toNat)
  case atStart => exact ⟨0, Nat.zero_le _, rfl, World.ownsRow_nil _ _ _ _, Below.refl _ _⟩
  case round =>
    obtain ⟨k, hk, rfl, hown, hb⟩ := hrel
    rw [HN.out] at hk
    have HO := Lib.hid hown
    have HB := Lib.hid hb
    have hsz := hb.size
    by_cases hlt : k < n
    · obtain ⟨b, off, ha, hbw, c0, c1, c2⟩ := HT.out k (by rw [HN.out]; exact hlt)
      subst ha
      have ak : u3.ownBlock ≠ some b := fun e => by
        have := (hown.lt _ e).1
        omega
      clear hown hb
      have d0 : wr.cell? ⟨b, off + k * 3, none⟩ = _ := (HB.out.cell hbw).trans c0
      have d1 : wr.cell? ⟨b, off + k * 3 + 1, none⟩ = _ := (HB.out.cell hbw).trans c1
      have d2 : wr.cell? ⟨b, off + k * 3 + 2, none⟩ = _ := (HB.out.cell hbw).trans c2
      clear c0 c1 c2
      have hbr : b < wr.heap.size := Nat.lt_of_lt_of_le hbw HB.out.size
      have HTK := Lib.hid (take_tok L k (by rw [HN.out]; exact hlt))
      obtain ⟨x0, x1, x2, hx⟩ : ∃ x0 x1 x2, tokAt L k = (x0, x1, x2) := ⟨_, _, _, rfl⟩
      rw [hx] at d0 d1 d2 HTK
      simp only at d0 d1 d2
      clear hx
      have hi0 : (0 : Int) ≤ (k : Int) := by omega
      have hi1 : (k : Int) < (n : Int) := by omega
      go_wp2_with fail
      go_region_held3 (fun w' => w'.cell? ⟨b, off + k * 3, none⟩ = some (.int .i64 x0) ∧ w'.cell? ⟨b, off + k * 3 + 1, none⟩ = some (.string x1) ∧ w'.cell? ⟨b, off + k * 3 + 2, none⟩ = some (.int .i64 x2))
        (first
          | go_keep
          | (go_split_ands
             refine ⟨?_, ?_, ?_⟩
             · (rw [hgrow.cell_far _ (by simp; omega) (Ne.symm ak)]; assumption)
             · (rw [hgrow.cell_far _ (by simp; omega) (Ne.symm ak)]; assumption)
             · (rw [hgrow.cell_far _ (by simp; omega) (Ne.symm ak)]; assumption)))
        ((refine step_append_lies _ (by rfl) _ _ _ (by rfl) w.heap.size 41 i0 _ 3 32 Try.underlying23 HI.out HZ0.out HZ1.out HZ2.out rfl (by omega) u3 k (tokCells (L.take k)) (by rfl) ((World.ownsRow.alloc HO.out _).drew)
            ⟨wr.heap.size, 0, none⟩ 1 1 [.int .i64 x0, .string x1, .int .i64 x2] (by rfl) (by rfl) (World.news_of_block (cs := #[.int .i64 x0, .string x1, .int .i64 x2]) (t := 41) (fr := (0, 0)) (heap_alloc_new wr _)) (by simp [Value.oneCell'])
            (by omega) (by unfold maxLen; omega) (by omega) (by simp; omega) (wr.heap.size + 1) (by simp) ?_; intro gg cap8 w1 hown1 hgrow hat hlt2))
      have HG := Lib.hid hgrow
      have HO1 := Lib.hid hown1
      clear hgrow hown1 hat hlt2
      go_wp2
      go_roundw
      case rel =>
        refine ⟨k + 1, by rw [HN.out]; omega, by go_num, ?_, ((HB.out.alloc hsz _).drew).grown HG.out (by simp; omega) (fun j hj => own_ge HO.out hj)⟩
        rw [HTK.out, tokCells_snoc]
        exact HO1.out
      case measure => simp [intOf]; omega
    · have hke : k = n := by omega
      have HKE := Lib.hid hke
      clear hown hb hke
      go_wp2
      go_ret
      refine ⟨HB.out, ?_⟩
      have h1 := HO.out
      rw [HKE.out, List.take_of_length_le (by rw [HN.out]; exact Nat.le_refl _), ← HN.out] at h1
      obtain ⟨a', cap', rfl⟩ := own_slice h1
      exact ⟨a', cap', by rw [HN.out]; rfl, own_toks h1⟩
theorem tokens_awake : tokens [45, 53, 60, 61, 51, 46, 53] = (.ok [(3, ofL [45, 53], 0), (5, ofL [60, 61], 2), (3, ofL [51, 46, 53], 4)], 0) := by
  have h1 : ∀ acc, lexL 7 acc [45, 53, 60, 61, 51, 46, 53] = lexL 7 (acc ++ [(3, ofL [45, 53], ((7 - 7 : Nat) : Int))]) [60, 61, 51, 46, 53] := fun acc => lex_step (c := 45) (r := [53, 60, 61, 51, 46, 53]) (by decide +kernel) (by decide +kernel)
  have h2 : ∀ acc, lexL 7 acc [60, 61, 51, 46, 53] = lexL 7 (acc ++ [(5, ofL [60, 61], ((7 - 5 : Nat) : Int))]) [51, 46, 53] := fun acc => lex_step (c := 60) (r := [61, 51, 46, 53]) (by decide +kernel) (by decide +kernel)
  have h3 : ∀ acc, lexL 7 acc [51, 46, 53] = lexL 7 (acc ++ [(3, ofL [51, 46, 53], ((7 - 3 : Nat) : Int))]) [] := fun acc => lex_step (c := 51) (r := [46, 53]) (by decide +kernel) (by decide +kernel)
  have h4 : ∀ acc, lexL 7 acc [] = .ok acc := fun acc => lex_end rfl
  rw [tokens, if_neg (by decide)]
  show finT (lexL 7 [] [45, 53, 60, 61, 51, 46, 53]) = _
  rw [h1, h2, h3, h4]
  rfl
end Go.Proofs.Ytcmdcdjclmpncaa
