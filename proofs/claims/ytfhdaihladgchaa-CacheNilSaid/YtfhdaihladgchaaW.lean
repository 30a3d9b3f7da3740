/- The document's table: a range of a column. No condition. -/
import Derived.Test.YtfhdaihladgchaaV
namespace Go.Proofs.Ytfhdaihladgchaa
open Go.RowKit Go.WideMaps
def inR (a b : Int) (p : Pt) : Bool := decide (a ≤ p.t) && decide (p.t ≤ b)
def atL (R : List RC) (s f : ByteArray) : List Pt := if hereB R s f then ((R[atI R s f]?).map (·.l)).getD [] else []
def InGet (w : World) (l : List Pt) (a b : Int) (n : Nat) (out i : Value) (wr : World) : Prop :=
  ∃ k : Nat, k ≤ n ∧ i = .int .i64 k ∧ wr.ownsRow w.heap.size 33 4 out ((l.take k).filter (inR a b)).length (ptC ((l.take k).filter (inR a b))) ∧ Below w.heap.size w wr
theorem filter_snoc {l : List Pt} {k : Nat} {p : Pt} (h : l[k]? = some p) (q : Pt → Bool) : (l.take (k + 1)).filter q = (l.take k).filter q ++ if q p then [p] else [] := by
  obtain ⟨hk, rfl⟩ := List.getElem?_eq_some_iff.1 h
  rw [List.take_succ_eq_append_getElem hk, List.filter_append]
  congr 1
  cases hq : q l[k] <;> simp [hq]
theorem here_at {R : List RC} {s f : ByteArray} (h : hereB R s f = true) : ∃ x, R[atI R s f]? = some x ∧ eqB s f x = true := by
  unfold hereB at h
  cases hx : R[atI R s f]? with
  | none => rw [hx] at h; cases h
  | some x => rw [hx] at h; exact ⟨x, rfl, h⟩
def GetPost (w : World) (l : List Pt) (e : Ending) (w' : World) : Prop := ∃ v base, e = .returned v ∧ w.heap.size ≤ base ∧ w'.ownsRow base 33 4 v l.length (ptC l) ∧ Below w.heap.size w w'
set_option maxRecDepth 100000 in
theorem refGet (w : World) (T : Nat → Prop) (r : Nat) (R : List RC) (most : Int) (s f : ByteArray) (a b : Int) (h : RefAt w T r R most) (hl : R.length ≤ 1000000000000) (hn : (atL R s f).length ≤ 1000000000000) :
    Calls Try.prog 17 #[.pointer (some ⟨r, 0, none⟩), .string s, .string f, .int .i64 a, .int .i64 b] w (GetPost w ((atL R s f).filter (inR a b))) := by
  obtain ⟨i0, z0', hi, hz0, hz1, hz2, hz3⟩ := zparts33
  have HI := Lib.hid hi
  have HI0 := Lib.hid hz0
  have HI1 := Lib.hid hz1
  have HI2 := Lib.hid hz2
  have HI3 := Lib.hid hz3
  have HH := Lib.hid h
  clear hi hz0 hz1 hz2 hz3 h
  cases hh : hereB R s f with
  | false =>
    have h0 : atL R s f = [] := by unfold atL; rw [hh]; rfl
    have H0 := Lib.hid h0
    have HHB := Lib.hid hh
    clear h0 hh
    go_enter Try.func17, Try.ntmps17
    go_wp2_with fail
    refine (refAt w T r R most s f HH.out hl).mono ?_
    rw [HHB.out]
    rintro e w1 ⟨rfl, hb1⟩
    have HB1 := Lib.hid hb1
    clear hb1
    go_wp2_with fail
    go_ret
    refine ⟨_, w.heap.size, rfl, Nat.le_refl _, ?_, HB1.out⟩
    rw [H0.out]
    exact World.ownsRow_nil _ _ _ _
  | true =>
    obtain ⟨x, hx, _⟩ := here_at hh
    have hal : atL R s f = x.l := by unfold atL; rw [hh, hx]; rfl
    rw [hal] at hn ⊢
    have HHB := Lib.hid hh
    have HX := Lib.hid hx
    obtain ⟨at_, hat⟩ : ∃ n, atI R s f = n := ⟨_, rfl⟩
    have HAT := Lib.hid hat
    rw [hat] at HX
    have hatl : at_ < R.length := (List.getElem?_eq_some_iff.1 HX.out).1
    obtain ⟨R9, hR9⟩ : ∃ n, R.length = n := ⟨_, rfl⟩
    have HR9 := Lib.hid hR9
    rw [hR9] at hatl hl
    clear hh hx hal hat hR9
    go_enter Try.func17, Try.ntmps17
    go_wp2_with fail
    refine (refAt w T r R most s f HH.out (by rw [HR9.out]; exact hl)).mono ?_
    rw [HHB.out, HAT.out]
    rintro e w1 ⟨rfl, hb1⟩
    have HB1 := Lib.hid hb1
    have hh1 := HH.out.later hb1
    obtain ⟨v, h1, h2, _⟩ := hh1.blk
    have c0 : w1.cell? ⟨r, 0, none⟩ = some v := by simp [World.cell?, h1]
    rw [HR9.out] at h2
    obtain ⟨va, vc, rfl⟩ := row55_form h2
    obtain ⟨g, rfl, hc⟩ := row55_cells h2 HR9.out at_ x HX.out
    obtain ⟨q0, q1, q2⟩ := hc w1 (Below.refl _ _)
    have hrow := hh1.col x (List.mem_of_getElem? HX.out)
    obtain ⟨l, hL⟩ : ∃ l, x.l = l := ⟨_, rfl⟩
    obtain ⟨n, hN⟩ : ∃ n, l.length = n := ⟨_, rfl⟩
    rw [hL] at hrow hn ⊢
    rw [hN] at hrow hn
    obtain ⟨xa, xc, hxv⟩ := row_form hrow
    rw [hxv] at hrow q2
    have HC := Lib.hid (row_cells hrow hN)
    have HN := Lib.hid hN
    have HL := Lib.hid hL
    clear hb1 hh1 h1 h2 hc q0 q1 hrow hL hN hxv
    go_wp2_with fail
    go_loopw [13, 34] (fun out i wr => InGet w1 l a b n out i wr) (fun _ i _ => n - (intOf i).toNat)
    case atStart => exact ⟨0, Nat.zero_le _, rfl, World.ownsRow_nil _ _ _ _, Below.refl _ _⟩
    case round =>
      obtain ⟨k, hkn, rfl, hown, hbw⟩ := hrel
      have HOWN := Lib.hid hown
      have HBW := Lib.hid hbw
      clear hown hbw c0 q2
      by_cases hlt : k < n
      · obtain ⟨p, hp⟩ : ∃ p, l[k]? = some p := ⟨_, List.getElem?_eq_getElem (by rw [HN.out]; exact hlt)⟩
        obtain ⟨g', rfl, hc⟩ := HC.out k p hp
        obtain ⟨r0, r1, r2, r3⟩ := hc wr HBW.out
        have HP := Lib.hid (filter_snoc hp (inR a b))
        clear hc hp
        obtain ⟨fl, hfl⟩ : ∃ fl, (l.take k).filter (inR a b) = fl := ⟨_, rfl⟩
        have hfn : fl.length ≤ k := by rw [← hfl]; exact Nat.le_trans (List.length_filter_le _ _) (by rw [List.length_take]; omega)
        rw [hfl] at HOWN HP
        obtain ⟨fn, hfn'⟩ : ∃ fn, fl.length = fn := ⟨_, rfl⟩
        rw [hfn'] at HOWN hfn
        have HFN := Lib.hid hfn'
        clear hfl hfn'
        by_cases t1 : a ≤ p.t
        · by_cases t2 : p.t ≤ b
          · have HIN := Lib.hid (show inR a b p = true by unfold inR; rw [decide_eq_true t1, decide_eq_true t2]; rfl)
            have HSRC := Lib.hid (SrcN.of_block (size := 4) (m := 1) (heap_alloc_new (wr.alloc (.cells (ptV p).toArray 33)) (.cells (ptV p).toArray 33)) rfl (by simp [ptV, Value.oneCell']) 1)
            have HOWN2 := Lib.hid (row_later HOWN.out (((Below.refl wr.heap.size wr).alloc (Nat.le_refl _) (.cells (ptV p).toArray 33)).alloc (by simp) (.cells (ptV p).toArray 33)))
            simp only [ptV, World.size_alloc] at HSRC HOWN2
            go_wp2_with (at_builtin; go_must (refine wpList_append_srcN rfl _ _ 23 rfl w1.heap.size 33 i0 z0' 4 40 Try.underlying23 HI.out HI0.out HI1.out HI2.out HI3.out (by omega) _ fn _ rfl HOWN2.out _ 1 _ rfl HSRC.out (by unfold maxLen; omega) (by omega) (by have := HBW.out.size; simp; omega) ?_); intro v6 w6 hr6 hg6 hat6; have HR6 := Lib.hid hr6; have HG6 := Lib.hid hg6; clear hr6 hg6 hat6)
            go_wp2_with fail
            go_roundw
            case rel =>
              refine ⟨k + 1, by omega, by go_num, ?_, ?_⟩
              · rw [HP.out, HIN.out]
                simp only [if_true]
                rw [ptC_append, List.length_append, HFN.out]
                exact HR6.out
              · exact (((HBW.out.alloc HBW.out.size _).alloc (by have := HBW.out.size; simp; omega) _).grown HG6.out (by have := HBW.out.size; simp; omega) (fun b hb => (HOWN2.out.lt b hb).1))
            case measure => simp [intOf]; omega
          · have HIN := Lib.hid (show inR a b p = false by unfold inR; rw [decide_eq_false t2, Bool.and_false])
            go_wp2_with fail
            go_roundw
            case rel =>
              refine ⟨k + 1, by omega, by go_num, ?_, HBW.out.alloc HBW.out.size _⟩
              rw [HP.out, HIN.out]
              simp only [Bool.false_eq_true, if_false, List.append_nil]
              rw [HFN.out]
              exact row_later HOWN.out ((Below.refl wr.heap.size wr).alloc (Nat.le_refl _) _)
            case measure => simp [intOf]; omega
        · have HIN := Lib.hid (show inR a b p = false by unfold inR; rw [decide_eq_false t1, Bool.false_and])
          go_wp2_with fail
          go_roundw
          case rel =>
            refine ⟨k + 1, by omega, by go_num, ?_, HBW.out.alloc HBW.out.size _⟩
            rw [HP.out, HIN.out]
            simp only [Bool.false_eq_true, if_false, List.append_nil]
            rw [HFN.out]
            exact row_later HOWN.out ((Below.refl wr.heap.size wr).alloc (Nat.le_refl _) _)
          case measure => simp [intOf]; omega
      · have hk : k = n := by omega
        have HK := Lib.hid hk
        clear hk
        go_wp2_with fail
        go_ret
        have h9 := HOWN.out
        rw [List.take_of_length_le (by rw [HN.out, HK.out]; exact Nat.le_refl _), ← HL.out] at h9
        exact ⟨_, w1.heap.size, rfl, HB1.out.size, h9, HB1.out.trans (HBW.out.mono HB1.out.size)⟩
end Go.Proofs.Ytfhdaihladgchaa
