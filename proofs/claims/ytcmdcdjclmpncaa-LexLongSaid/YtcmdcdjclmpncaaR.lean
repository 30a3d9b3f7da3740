/- What a program that does nothing answers wrongly; the walk of LexTokens. No condition. -/
import Derived.Test.YtcmdcdjclmpncaaQ
import Derived.Lib.SmallJoins
import Derived.Deep.Slices
namespace Go.Proofs.Ytcmdcdjclmpncaa
open Go.RowKit Go.Deep Go.WideShapes Go.ChangeShapes Go.Joins
open Go.ChangeMaps (open_string)
theorem lex_len : ∀ (m : Nat) {n : Nat} {acc L : List Tok} {l : List UInt8}, l.length ≤ m → lexL n acc l = .ok L → L.length ≤ acc.length + l.length := by
  intro m
  induction m with
  | zero =>
    intro n acc L l hm h
    have : l = [] := List.eq_nil_of_length_eq_zero (by omega)
    subst this
    rw [lex_end rfl] at h
    cases h
    simp
  | succ m ih =>
    intro n acc L l hm h
    cases hl : l.dropWhile blankB with
    | nil => rw [lex_end hl] at h; cases h; omega
    | cons c r =>
      have hd := dw_len blankB l
      rw [hl] at hd
      cases ho : one (c :: r) with
      | none => rw [lex_bad hl ho] at h; cases h
      | some p =>
        obtain ⟨k, t, q⟩ := p
        rw [lex_step hl ho] at h
        have h1 := one_len ho
        have := ih (by omega) h
        simp at this hd h1
        omega
def tokL (t : Except Int (List Tok) × Int) : List Tok := match t.1 with | .ok L => L | .error _ => []
def tokP (t : Except Int (List Tok) × Int) : Int := match t.1 with | .ok _ => 0 | .error p => p
theorem tokPost_cases {s : List UInt8} {w : World} {e : Ending} {w' : World} (h : TokPost s w e w') : ∃ a cap, e = .returned (.tuple #[.slice a (tokL (tokens s)).length cap, .int .i64 (tokP (tokens s)), .int .i64 (tokens s).2]) ∧ ToksAt w' a (tokL (tokens s)) ∧ Below w.heap.size w w' := by
  obtain ⟨hb, h⟩ := h
  cases ht : tokens s with
  | mk o er =>
    rw [ht] at h
    cases o with
    | ok L =>
      obtain ⟨a, cap, he, hta⟩ := h
      exact ⟨a, cap, he, hta, hb⟩
    | error p => exact ⟨none, 0, h, fun i hi => absurd hi (by simp [tokL]), hb⟩
theorem tokL_le (s : List UInt8) : (tokL (tokens s)).length ≤ 65536 := by
  unfold tokens
  split
  · simp [tokL]
  · rename_i h
    cases hl : lexL s.length [] s with
    | ok L =>
      have := lex_len _ (Nat.le_refl _) hl
      simp [finT, tokL] at this ⊢
      omega
    | error p => simp [finT, tokL]
theorem awake7 (w : World) : Calls Try.prog 7 #[] w fun e w' => e = .returned (.bool true) ∧ Below w.heap.size w w' := by
  go_enter Try.func7, Try.ntmps7
  go_wp2_with fail
  refine (tokens9 ⟨#[45, 53, 60, 61, 51, 46, 53]⟩ w (by decide)).mono ?_
  intro e w1 hp
  have ht : tokens (⟨#[45, 53, 60, 61, 51, 46, 53]⟩ : ByteArray).data.toList = (.ok [(3, ofL [45, 53], 0), (5, ofL [60, 61], 2), (3, ofL [51, 46, 53], 4)], 0) := tokens_awake
  obtain ⟨a, cap, rfl, hta, hb⟩ := tokPost_cases hp
  rw [ht] at hta ⊢
  have e1 : tokL (.ok [(3, ofL [45, 53], 0), (5, ofL [60, 61], 2), (3, ofL [51, 46, 53], 4)], 0) = [(3, ofL [45, 53], 0), (5, ofL [60, 61], 2), (3, ofL [51, 46, 53], 4)] := rfl
  have e2 : tokP (.ok [(3, ofL [45, 53], 0), (5, ofL [60, 61], 2), (3, ofL [51, 46, 53], 4)], 0) = 0 := rfl
  rw [e1] at hta ⊢
  rw [e2]
  obtain ⟨b, off, ha, hbw, c0, c1, c2⟩ := hta 1 (by decide)
  obtain ⟨b', off', ha', hbw', d0, d1, d2⟩ := hta 2 (by decide)
  rw [ha] at ha'
  cases ha'
  subst ha
  have f1 : w1.cell? ⟨b, off + 3 + 1, none⟩ = some (.string ⟨#[60, 61]⟩) := c1
  have f2 : w1.cell? ⟨b, off + 6, none⟩ = some (.int .i64 3) := d0
  have HB := Lib.hid hb
  clear hp ht hta c0 c1 c2 d0 d1 d2 hb e1 e2
  go_wp2_with fail
  go_ret
  exact ⟨rfl, HB.out⟩
theorem lexTokens_walk (H : Type) (enc : TypeId × Value → H) (W : World) (base : Nat) (v0 : Value) (d0 : DataW H) (p0 : List MemPlace) (h0 : DataW.Trod enc Try.prog W 0 (fun _ => true) true 9 v0 d0 p0) (o0 : Value.okWide Try.prog W .any base 9 v0) :
    Calls Try.prog 3 #[v0] W fun e w' => e = .returned (.bool true) ∧ Below W.heap.size W w' := by
  obtain ⟨s, rfl, rfl, _, hs⟩ := open_string Try.underlying9 o0 h0
  clear h0 o0
  unfold maxLen at hs
  have hle := tokL_le s.data.toList
  go_enter Try.func3, Try.ntmps3
  go_wp2_with fail
  refine (awake7 _).mono ?_
  rintro e w1 ⟨rfl, hb⟩
  have HB1 := Lib.hid hb
  clear hb
  go_wp2_with fail
  refine (tokens8 s _ hs).mono ?_
  intro e w2 hp
  obtain ⟨a, cap, rfl, hta, hb⟩ := tokPost_cases hp
  have HTA := Lib.hid hta
  have HB2 := Lib.hid (HB1.out.trans (hb.mono HB1.out.size))
  clear hb hp hta
  go_wp2_with fail
  refine (tokens9 s _ hs).mono ?_
  intro e w3 hp
  obtain ⟨b, cbp, rfl, htb, hb⟩ := tokPost_cases hp
  have HTA3 := Lib.hid (HTA.out.later hb)
  have HTB3 := Lib.hid htb
  have HB3 := Lib.hid (HB2.out.trans (hb.mono HB2.out.size))
  clear hb hp htb
  generalize tokL (tokens s.data.toList) = L at *
  generalize tokP (tokens s.data.toList) = P at *
  generalize (tokens s.data.toList).2 = E at *
  go_wp2_with fail
  refine (ours11 b L cbp _ (by omega) (by exact HTB3.out)).mono ?_
  rintro e w4 ⟨hb4, c, cc, rfl, htc⟩
  have HTC := Lib.hid htc
  have HTA4 := Lib.hid (HTA3.out.later hb4)
  have HB4 := Lib.hid (HB3.out.trans (hb4.mono HB3.out.size))
  clear hb4 htc
  go_wp2_with fail
  refine (same10 c a L cc cap _ (by omega) (by exact HTC.out) (by exact HTA4.out)).mono ?_
  rintro e w5 ⟨rfl, hb5⟩
  have HB5 := Lib.hid (HB4.out.trans (hb5.mono HB4.out.size))
  clear hb5
  go_wp2_with fail
  go_ret
  exact ⟨rfl, HB5.out⟩
end Go.Proofs.Ytcmdcdjclmpncaa
