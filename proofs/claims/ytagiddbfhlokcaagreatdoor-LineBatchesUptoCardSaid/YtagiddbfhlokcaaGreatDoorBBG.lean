/- Several texts of this proof, laid together. Conditions: as each says. -/
import Derived.Test.YtagiddbfhlokcaaGreatDoorBBF
import Derived.Lib.SplitLaws
/- The law LineParses walked. Conditions: the text's length; the tables. -/
namespace Go.Proofs.YtagiddbfhlokcaaGreatDoor.Ser
open Go.RowKit Go.Sort
set_option maxRecDepth 100000
def cont (R : LR) : ByteArray × List Tg × List Fd × Int := R.2.getD (⟨#[]⟩, [], [], 0)
/-- A row's value holds what was read. -/
structure RowIs (R : LR) (w : World) (nm : ByteArray) (a : Option Addr) (n : Nat) (fa : Option Addr) (m : Nat) (t : Int) : Prop where
  name : nm = (cont R).1
  tn : n = (cont R).2.1.length
  fn : m = (cont R).2.2.1.length
  tm : t = (cont R).2.2.2
  tags : TagsAt w a n (kOf (cont R).2.1) (vOf (cont R).2.1)
  fields : FieldsAt w fa (cont R).2.2.1
theorem RowIs.later {R : LR} {w w' : World} {nm : ByteArray} {a fa : Option Addr} {n m : Nat} {t : Int} (h : RowIs R w nm a n fa m t) (hb : Below w.heap.size w w') : RowIs R w' nm a n fa m t :=
  ⟨h.name, h.tn, h.fn, h.tm, fun i hi => by
    obtain ⟨b, off, h1, h2, h3, h4⟩ := h.tags i hi
    exact ⟨b, off, h1, Nat.lt_of_lt_of_le h2 hb.size, by rw [← h3]; exact hb.cell h2, by rw [← h4]; exact hb.cell h2⟩, h.fields.later hb⟩
theorem rowPost_is {R : LR} {w w' : World} {e : Ending} (h : RowPost R w e w') : Below w.heap.size w w' ∧ ∃ nm a n c fa m fc t, e = .returned (.tuple #[.agg #[.string nm, .slice a n c, .slice fa m fc, .int .i64 t], .int .i64 R.1]) ∧ RowIs R w' nm a n fa m t := by
  obtain ⟨hb, hm⟩ := h
  refine ⟨hb, ?_⟩
  cases ho : R.2 with
  | none =>
    rw [ho] at hm
    simp only at hm
    refine ⟨_, _, _, _, _, _, _, _, hm, ?_⟩
    have hc : cont R = (⟨#[]⟩, [], [], 0) := by unfold cont; rw [ho]; rfl
    refine ⟨by rw [hc], by rw [hc]; rfl, by rw [hc]; rfl, by rw [hc], fun i hi => absurd hi (Nat.not_lt_zero i), ?_⟩
    rw [hc]
    exact fun i hi => absurd hi (Nat.not_lt_zero i)
  | some r =>
    rw [ho] at hm
    obtain ⟨v, vf, he, hrt, hrf, _⟩ := hm
    obtain ⟨a1, c1, rfl⟩ := hrt.slice
    obtain ⟨a2, c2, rfl⟩ := hrf.slice
    have hc : cont R = r := by unfold cont; rw [ho]; rfl
    refine ⟨_, _, _, _, _, _, _, _, he, ?_⟩
    exact ⟨by rw [hc], by rw [hc], by rw [hc], by rw [hc], by rw [hc]; exact hrt.at, by rw [hc]; exact hrf.at⟩
theorem finP_small {name : ByteArray} {tags : List Tg} {p : Int × List Fd × Int} : (cont (finP name tags p)).2.1.length ≤ 8 ∧ (cont (finP name tags p)).2.2.1.length ≤ 16 := by
  unfold finP
  split
  · split
    · rename_i h
      unfold rowOk formedB at h
      simp only [Bool.and_eq_true, decide_eq_true_eq] at h
      exact ⟨h.2.1.2.2, h.2.2.2⟩
    · exact ⟨Nat.zero_le _, Nat.zero_le _⟩
  · exact ⟨Nat.zero_le _, Nat.zero_le _⟩
theorem lineP_small (V : List UInt8 → Value × Int) (now : Int) (l : List UInt8) : (cont (lineP V now l)).2.1.length ≤ 8 ∧ (cont (lineP V now l)).2.2.1.length ≤ 16 := by
  have z : ∀ e : Int, (cont (e, none)).2.1.length ≤ 8 ∧ (cont (e, none)).2.2.1.length ≤ 16 := fun e => ⟨Nat.zero_le _, Nat.zero_le _⟩
  unfold lineP
  split
  · exact z _
  · split
    · split
      · exact z _
      · split
        · exact finP_small
        · split
          · split
            · exact z _
            · exact finP_small
          · exact z _
    · exact z _
theorem RowIs.same {R : LR} {w : World} {nm nm' : ByteArray} {a fa a' fa' : Option Addr} {n m n' m' : Nat} {t t' : Int} (c fc c' fc' : Nat) (h : RowIs R w nm a n fa m t) (h' : RowIs R w nm' a' n' fa' m' t') (hs : (cont R).2.1.length ≤ 8 ∧ (cont R).2.2.1.length ≤ 16) :
    Calls Tryz.prog 13 #[.agg #[.string nm, .slice a n c, .slice fa m fc, .int .i64 t], .agg #[.string nm', .slice a' n' c', .slice fa' m' fc', .int .i64 t']] w (Answer (.bool true) w) := by
  obtain ⟨rfl, rfl, rfl, rfl, h1, h2⟩ := h
  obtain ⟨rfl, rfl, rfl, rfl, h3, h4⟩ := h'
  exact same13 _ _ _ _ _ _ _ _ _ _ _ _ _ _ _ (by omega) (by omega) h1 h3 h2 h4
set_option maxHeartbeats 4000000 in
theorem law4 (l : List UInt8) (hlen : l.length ≤ 1073741824) (now : Int) (w : World) (hm : laidMet Tryz.prog Laid.lst w) :
    Calls Tryz.prog 4 #[.string (bs l), .int .i64 now] w fun e w' => e = .returned (.bool true) ∧ Below w.heap.size w w' := by
  obtain ⟨h1, h2⟩ := readers_of hm
  obtain ⟨R, hR⟩ : ∃ R, lineP V0 now l = R := ⟨_, rfl⟩
  have hsm := lineP_small V0 now l
  have MA := Lib.hid (awake10 w h1)
  have M14 := Lib.hid (fun w2 (h : Below w.heap.size w w2) => parse14 now l hlen w2 (h2.later h))
  have M15 := Lib.hid (fun w2 (h : Below w.heap.size w w2) => parse15 l hlen now w2 (h1.later h))
  rw [hR] at M14 M15 hsm
  have HSM := Lib.hid hsm
  clear hm h1 h2 hR hsm
  go_enter Tryz.func4, Tryz.ntmps4
  go_wp2_with fail
  refine MA.out.mono ?_
  rintro e w1 ⟨rfl, hb1⟩
  have HB1 := Lib.hid hb1
  clear hb1
  go_wp2_with fail
  refine (M14.out _ HB1.out).mono ?_
  intro e w2 hp
  obtain ⟨hb2, nm, a, n, c, fa, m, fc, t, rfl, hri⟩ := rowPost_is hp
  have HB2 := Lib.hid (HB1.out.trans (hb2.mono HB1.out.size))
  have HRI := Lib.hid hri
  clear hp hb2 hri
  go_upto_region 4 with (fail)
  refine wp_gen (fun wx => Below w2.heap.size w2 wx ∧ wx.heap[w2.heap.size]? = some (.cells #[.string nm, .slice a n c, .slice fa m fc, .int .i64 t] 27 (0, 0))) ⟨(Below.refl _ _).alloc (Nat.le_refl _) _, newest _ _⟩ ?_
  rintro w3 ⟨hb3, hk3⟩
  have HB3 := Lib.hid (HB2.out.trans (hb3.mono HB2.out.size))
  have HRI3 := Lib.hid (HRI.out.later hb3)
  have HK3 := Lib.hid hk3
  clear hb3 hk3
  go_wp2_with fail
  refine (M15.out _ HB3.out).mono ?_
  intro e w4 hp
  obtain ⟨hb4, nm', a', n', c', fa', m', fc', t', rfl, hri⟩ := rowPost_is hp
  have HB4 := Lib.hid (HB3.out.trans (hb4.mono HB3.out.size))
  have HRI4 := Lib.hid (HRI3.out.later hb4)
  have HRI4' := Lib.hid hri
  have hk4 := (hb4.block _ (lt_of_block HK3.out)).trans HK3.out
  have HK4 := Lib.hid hk4
  clear hp hb4 hri hk4
  go_upto_region 5 with (fail)
  refine wp_gen (fun wx => Below w4.heap.size w4 wx ∧ wx.heap[w4.heap.size]? = some (.cells #[.string nm', .slice a' n' c', .slice fa' m' fc', .int .i64 t'] 27 (0, 0))) ⟨(Below.refl _ _).alloc (Nat.le_refl _) _, newest _ _⟩ ?_
  rintro w5 ⟨hb5, hk5⟩
  have hk5' := (hb5.block _ (lt_of_block HK4.out)).trans HK4.out
  have d0 : w5.cell? ⟨w2.heap.size, 0, none⟩ = some (.string nm) := Lib.cell_of_heap hk5' 0
  have d1 : w5.cell? ⟨w2.heap.size, 1, none⟩ = some (.slice a n c) := Lib.cell_of_heap hk5' 1
  have d2 : w5.cell? ⟨w2.heap.size, 2, none⟩ = some (.slice fa m fc) := Lib.cell_of_heap hk5' 2
  have d3 : w5.cell? ⟨w2.heap.size, 3, none⟩ = some (.int .i64 t) := Lib.cell_of_heap hk5' 3
  have e0 : w5.cell? ⟨w4.heap.size, 0, none⟩ = some (.string nm') := Lib.cell_of_heap hk5 0
  have e1 : w5.cell? ⟨w4.heap.size, 1, none⟩ = some (.slice a' n' c') := Lib.cell_of_heap hk5 1
  have e2 : w5.cell? ⟨w4.heap.size, 2, none⟩ = some (.slice fa' m' fc') := Lib.cell_of_heap hk5 2
  have e3 : w5.cell? ⟨w4.heap.size, 3, none⟩ = some (.int .i64 t') := Lib.cell_of_heap hk5 3
  have HB5 := Lib.hid (HB4.out.trans (hb5.mono HB4.out.size))
  have MS := Lib.hid (RowIs.same c' fc' c fc (HRI4'.out.later hb5) (HRI4.out.later hb5) HSM.out)
  clear hb5 hk5 hk5'
  go_wp2_with fail
  refine MS.out.mono ?_
  rintro e w6 ⟨rfl, hb6⟩
  have HB6 := Lib.hid (HB5.out.trans (hb6.mono HB5.out.size))
  clear hb6
  go_wp2_with fail
  go_ret
  exact ⟨rfl, HB6.out⟩
end Go.Proofs.YtagiddbfhlokcaaGreatDoor.Ser
/- The lines of a text: plain law. No condition. -/
namespace Go.Proofs.YtagiddbfhlokcaaGreatDoor.Ser
open Go.RowKit Go.Sort
set_option maxRecDepth 100000
def consHd (b : List UInt8) : List (List UInt8) → List (List UInt8)
  | [] => [b]
  | p :: ps => (b ++ p) :: ps
/-- A text cut at its line feeds. -/
def sp : List UInt8 → List (List UInt8)
  | [] => [[]]
  | c :: r => if c = 10 then [] :: sp r else consHd [c] (sp r)
/-- A text's lines; cur is what of the line has gone by. -/
def rln : List UInt8 → List UInt8 → List (List UInt8)
  | cur, [] => if cur.isEmpty then [] else [cur]
  | cur, c :: r => if c = 10 then cur :: rln [] r else rln (cur ++ [c]) r
theorem index_hit (l : List UInt8) : Lib.index (10 :: l) [10] = 0 := by rw [Lib.index]; simp [List.isPrefixOf]
theorem index_ne {b : UInt8} (l : List UInt8) (h : b ≠ 10) : Lib.index (b :: l) [10] = if Lib.index l [10] == -1 then -1 else Lib.index l [10] + 1 := by
  have hp : ([10] : List UInt8).isPrefixOf (b :: l) = false := by simp [List.isPrefixOf, Ne.symm h]
  rw [Lib.index, hp]; simp
theorem splitK_ne {b : UInt8} (h : b ≠ 10) : ∀ (k : Nat) (l : List UInt8), Lib.splitK [10] 0 k (b :: l) = consHd [b] (Lib.splitK [10] 0 k l)
  | 0, l => rfl
  | k + 1, l => by
    unfold Lib.splitK
    rw [index_ne l h]
    by_cases hm : Lib.index l [10] = -1
    · simp [hm, consHd]
    · have hge := Lib.index_ge l [10]
      obtain ⟨j, hj⟩ : ∃ j : Nat, Lib.index l [10] = j := ⟨(Lib.index l [10]).toNat, by omega⟩
      have h1 : ((Lib.index l [10]) == -1) = false := by rw [beq_eq_false_iff_ne]; exact hm
      have h2 : ((Lib.index l [10] + 1) == (-1 : Int)) = false := by rw [beq_eq_false_iff_ne]; omega
      rw [h1]
      simp only [Bool.false_eq_true, if_false]
      rw [h2]
      simp only [Bool.false_eq_true, if_false]
      rw [hj]
      rw [show ((j : Int) + 1).toNat = j + 1 by omega, show ((j : Int)).toNat = j by omega]
      simp [consHd]
theorem split_sp : ∀ s : List UInt8, Lib.split s [10] = sp s
  | [] => by
    unfold Lib.split
    rw [Lib.count_miss (by simp [Lib.index])]
    rfl
  | b :: l => by
    have ih := split_sp l
    unfold Lib.split at ih ⊢
    by_cases h : b = 10
    · subst h
      rw [Lib.count_cons_eq, Nat.add_comm]
      unfold Lib.splitK
      rw [index_hit, sp, if_pos rfl]
      simp
      exact ih
    · rw [Lib.count_cons_ne _ _ _ h, splitK_ne h, ih, sp, if_neg h]
theorem consHd_app (a b : List UInt8) (L : List (List UInt8)) : consHd a (consHd b L) = consHd (a ++ b) L := by cases L <;> simp [consHd]
theorem sp_ne : ∀ l, sp l ≠ []
  | [] => by simp [sp]
  | c :: r => by
    unfold sp
    split
    · simp
    · cases sp r <;> simp [consHd]
theorem suf_nil : Lib.trimSuffix [] [10] = [] := by decide
theorem suf_one (c : UInt8) : Lib.trimSuffix [c] [10] = if c = 10 then [] else [c] := by
  unfold Lib.trimSuffix Lib.hasSuffix
  by_cases h : c = 10
  · subst h; rfl
  · rw [if_neg h, if_neg]
    rw [List.isSuffixOf_iff_suffix, List.suffix_cons_iff]
    rintro (h1 | h1)
    · injection h1 with h1; exact h h1.symm
    · have := h1.length_le; simp at this
theorem suf_cons (c d : UInt8) (r : List UInt8) : Lib.trimSuffix (c :: d :: r) [10] = c :: Lib.trimSuffix (d :: r) [10] := by
  unfold Lib.trimSuffix Lib.hasSuffix
  have e : ([10] : List UInt8).isSuffixOf (c :: d :: r) = ([10] : List UInt8).isSuffixOf (d :: r) := by
    rw [Bool.eq_iff_iff, List.isSuffixOf_iff_suffix, List.isSuffixOf_iff_suffix, List.suffix_cons_iff]
    constructor
    · rintro (h | h)
      · injection h with _ h; cases h
      · exact h
    · exact .inr
  rw [e]
  split
  · simp
  · rfl
theorem rln_sp : ∀ (n : Nat) (cur : List UInt8) (c : UInt8) (r : List UInt8), r.length ≤ n → rln cur (c :: r) = consHd cur (sp (Lib.trimSuffix (c :: r) [10]))
  | n, cur, c, [], _ => by
    rw [suf_one]
    unfold rln rln
    by_cases h : c = 10
    · simp [h, sp, consHd]
    · simp [h, sp, consHd]
  | 0, cur, c, d :: r, hn => by simp at hn
  | n + 1, cur, c, d :: r, hn => by
    rw [suf_cons]
    unfold rln
    by_cases h : c = 10
    · rw [if_pos h, rln_sp n [] d r (by simp at hn; omega), sp, if_pos h]
      have := sp_ne (Lib.trimSuffix (d :: r) [10])
      cases hs : sp (Lib.trimSuffix (d :: r) [10]) with
      | nil => exact absurd hs this
      | cons p ps => simp [consHd]
    · rw [if_neg h, rln_sp n _ d r (by simp at hn; omega), sp, if_neg h, consHd_app]
/-- The lines, as the program cuts them. -/
theorem lines_eq {l : List UInt8} (h : l ≠ []) : rln [] l = sp (Lib.trimSuffix l [10]) := by
  cases l with
  | nil => exact absurd rfl h
  | cons c r =>
    rw [rln_sp _ _ _ _ (Nat.le_refl _)]
    have := sp_ne (Lib.trimSuffix (c :: r) [10])
    cases hs : sp (Lib.trimSuffix (c :: r) [10]) with
    | nil => exact absurd hs this
    | cons p ps => simp [consHd]
/-- No line is longer than the text, and there are no more lines than bytes. -/
theorem rln_len : ∀ (r cur : List UInt8), (∀ p ∈ rln cur r, p.length ≤ cur.length + r.length) ∧ (rln cur r).length ≤ r.length + 1
  | [], cur => by
    unfold rln
    split <;> simp
  | c :: r, cur => by
    unfold rln
    split
    · obtain ⟨h1, h2⟩ := rln_len r []
      refine ⟨fun p hp => ?_, by simp; omega⟩
      rcases List.mem_cons.1 hp with rfl | hp
      · simp
      · have := h1 p hp; simp at this ⊢; omega
    · obtain ⟨h1, h2⟩ := rln_len r (cur ++ [c])
      refine ⟨fun p hp => ?_, by simp; omega⟩
      have := h1 p hp; simp at this ⊢; omega
end Go.Proofs.YtagiddbfhlokcaaGreatDoor.Ser
/- The lines of a text, by the reference: the walk. Condition: the text's length. -/
namespace Go.Proofs.YtagiddbfhlokcaaGreatDoor.Ser
open Go.RowKit Go.Sort
set_option maxRecDepth 100000
theorem info9 : (Tryz.prog.info? 9).map (fun i => (i.zero, i.size, i.bytes)) = some (some (.string ⟨#[]⟩), 1, 16) := by kernel_rfl
def strs (L : List (List UInt8)) : List Value := L.map fun p => .string (bs p)
def InLn (l : List UInt8) (w : World) (v s i : Value) (wr : World) : Prop :=
  ∃ (A : List (List UInt8)) (s' i' : Nat), s = .int .i64 s' ∧ i = .int .i64 i' ∧ s' ≤ i' ∧ i' ≤ l.length ∧ A.length ≤ i' ∧ rln [] l = A ++ rln ((l.drop s').take (i' - s')) (l.drop i') ∧ wr.ownsRow w.heap.size 9 1 v A.length (strs A) ∧ Below w.heap.size w wr
theorem strs_slice {w : World} {base : Nat} {v : Value} {L : List (List UInt8)} (h : w.ownsRow base 9 1 v L.length (strs L)) : ∃ a cap, v = .slice a L.length cap := by
  rcases h.2 with ⟨rfl, hx⟩ | ⟨g, cap, cur, rfl, _⟩
  · have : L = [] := by simpa [strs] using hx
    subst this
    exact ⟨none, 0, rfl⟩
  · exact ⟨_, _, rfl⟩
theorem strs_snoc (A : List (List UInt8)) (p : List UInt8) : strs A ++ [Value.string (bs p)] = strs (A ++ [p]) := by simp [strs]
theorem ext_bs (l : List UInt8) {a b : Nat} (h : a ≤ b) : (bs l).extract a b = bs ((l.drop a).take (b - a)) := by
  have := mid_bs l a (b - a)
  rw [show a + (b - a) = b by omega] at this
  exact this
theorem take_next {l : List UInt8} {s i : Nat} {c : UInt8} {t : List UInt8} (h : s ≤ i) (e : l.drop i = c :: t) : (l.drop s).take (i + 1 - s) = (l.drop s).take (i - s) ++ [c] := by
  have hi : i < l.length := by
    rcases Nat.lt_or_ge i l.length with h | h
    · exact h
    · rw [List.drop_of_length_le h] at e; cases e
  have hc : l[i] = c := by
    rw [List.drop_eq_getElem_cons hi] at e
    injection e
  rw [show i + 1 - s = (i - s) + 1 by omega, List.take_add_one]
  congr 1
  rw [List.getElem?_drop, show s + (i - s) = i by omega, List.getElem?_eq_getElem hi, hc]
  rfl
set_option maxHeartbeats 4000000 in
theorem lines49 (l : List UInt8) (hl : l.length ≤ 1073741824) (w : World) : Calls Tryz.prog 49 #[.string (bs l)] w fun e w' => ∃ v, e = .returned v ∧ w'.ownsRow w.heap.size 9 1 v (rln [] l).length (strs (rln [] l)) ∧ Below w.heap.size w w' := by
  obtain ⟨i0, hi, hz0, hz1, hz2⟩ := info_parts info9
  have HI := Lib.hid hi
  have HZ0 := Lib.hid hz0
  have HZ1 := Lib.hid hz1
  have HZ2 := Lib.hid hz2
  have HSZ := Lib.hid (bs_size l)
  clear hi hz0 hz1 hz2
  go_enter Tryz.func49, Tryz.ntmps49
  go_wp2_with fail
  go_loopw [3, 4, 5] (fun v s i wx => InLn l w v s i wx) (fun _ _ i _ => l.length - (intOf i).toNat)
  case atStart => exact ⟨[], 0, 0, rfl, rfl, Nat.le_refl _, Nat.zero_le _, Nat.le_refl _, by simp, World.ownsRow_nil _ _ _ _, Below.refl _ _⟩
  case round =>
    obtain ⟨A, s, i, rfl, rfl, hsi, hil, hA, hR, hown, hb⟩ := hrel
    rename World => wl
    have HO := Lib.hid hown
    have HB := Lib.hid hb
    have HR := Lib.hid hR
    have hsz := hb.size
    obtain ⟨va, vc, rfl⟩ := strs_slice hown
    obtain ⟨na, hna⟩ : ∃ n, A.length = n := ⟨_, rfl⟩
    rw [hna] at HO hA ⊢
    have HNA := Lib.hid hna
    clear hown hb hR hna
    rcases list_cases (l.drop i) with e | ⟨c, t, e⟩
    · obtain ⟨h1, h2⟩ := at_nil hil e
      have hie : i = l.length := by rw [h2]; exact HSZ.out
      have HRE : Hid (rln [] l = A ++ (if ((l.drop s).take (i - s)).isEmpty then [] else [(l.drop s).take (i - s)])) := Lib.hid (by rw [HR.out, e]; rfl)
      clear e h2
      by_cases hse : s < i
      · have hz : (s : Int) < ((bs l).size : Int) := by rw [HSZ.out]; omega
        have hz2 : (s : Int) ≤ ((bs l).size : Int) := by omega
        have HIE := Lib.hid hie
        have HRF : Hid (rln [] l = A ++ [l.drop s]) := Lib.hid (by
          have e1 : (l.drop s).take (i - s) = l.drop s := List.take_of_length_le (by rw [List.length_drop]; omega)
          rw [HRE.out, e1]
          have : (l.drop s).isEmpty = false := by
            cases h : l.drop s with
            | nil => have := congrArg List.length h; simp at this; omega
            | cons _ _ => rfl
          rw [this]; rfl)
        have hext := drop_bs l s
        have hA2 : na < 1073741825 := by omega
        clear hie
        go_wp2_with ((at_builtin; refine wpList_append_own _ rfl (.tmp 29) (.tmp 33) 67 rfl w.heap.size 9 i0 _ 1 16 Tryz.underlying67 HI.out HZ0.out HZ1.out HZ2.out rfl (by omega) _ na _ rfl (World.ownsRow.alloc HO.out _) ⟨wl.heap.size, 0, none⟩ 1 1 [.string (bs (l.drop s))] rfl rfl (World.news_of_block (cs := #[.string (bs (l.drop s))]) (t := 9) (fr := (0, 0)) (heap_alloc_new wl _)) (by simp [Value.oneCell']) (by unfold maxLen; omega) (by omega) (by simp; omega) ?_; intro v1 w2 hown1 hgrow1 hnn; clear hnn))
        refine bodyPost_ret (v := v1) (by simp [results, Tryz.results49, go_sem]) rfl ⟨v1, rfl, ?_, (HB.out.alloc hsz _).grown hgrow1 (by simp; omega) (fun j hj => (HO.out.lt j hj).1)⟩
        rw [HRF.out, List.length_append, HNA.out, ← strs_snoc]
        exact hown1
      · have hz : ¬ (s : Int) < ((bs l).size : Int) := by rw [HSZ.out]; omega
        have hz2 : ¬ (i : Int) < ((bs l).size : Int) := by rw [HSZ.out]; omega
        have HRF : Hid (rln [] l = A) := Lib.hid (by
          have e1 : (l.drop s).take (i - s) = [] := by rw [show i - s = 0 by omega]; rfl
          rw [HRE.out, e1]; simp)
        clear hie hse
        go_wp2_with fail
        refine bodyPost_ret (v := .slice va na vc) (by simp [results, Tryz.results49, go_sem]) rfl ⟨_, rfl, ?_, HB.out⟩
        rw [HRF.out, HNA.out]
        exact HO.out
    · obtain ⟨hlt, hg, hz, hd, hkl⟩ := at_cons e
      have HD := Lib.hid hd
      have HTK := Lib.hid (take_next hsi e)
      by_cases hc : c = 10
      · have c10 : ((c.toNat : Int) == 10) = true := byte_eq c 10 (by decide) hc
        have HRN : Hid (rln [] l = (A ++ [(l.drop s).take (i - s)]) ++ rln ((l.drop (i + 1)).take (i + 1 - (i + 1))) (l.drop (i + 1))) := Lib.hid (by rw [HR.out, e, rln, if_pos hc, HD.out]; simp)
        have hext := ext_bs l hsi
        have hsz2 : (s : Int) ≤ (i : Int) := by omega
        have hA2 : na < 1073741825 := by omega
        have HKL := Lib.hid hkl
        clear hc e hd hkl
        obtain ⟨pz, hpz⟩ : ∃ p, (l.drop s).take (i - s) = p := ⟨_, rfl⟩
        rw [hpz] at hext HRN
        clear hpz HTK
        go_wp2_with ((at_builtin; refine wpList_append_own _ rfl (.tmp 16) (.tmp 21) 67 rfl w.heap.size 9 i0 _ 1 16 Tryz.underlying67 HI.out HZ0.out HZ1.out HZ2.out rfl (by omega) _ na _ rfl (World.ownsRow.alloc HO.out _) ⟨wl.heap.size, 0, none⟩ 1 1 [.string (bs pz)] rfl rfl (World.news_of_block (cs := #[.string (bs pz)]) (t := 9) (fr := (0, 0)) (heap_alloc_new wl _)) (by simp [Value.oneCell']) (by unfold maxLen; omega) (by omega) (by simp; omega) ?_; intro v1 w2 hown1 hgrow1 hnn; clear hnn))
        refine ⟨⟨A ++ [pz], i + 1, i + 1, by go_num, by go_num, Nat.le_refl _, HKL.out, ?_, HRN.out, ?_, (HB.out.alloc hsz _).grown hgrow1 (by simp; omega) (fun j hj => (HO.out.lt j hj).1)⟩, ?_⟩
        · rw [List.length_append, HNA.out]; simp; omega
        · rw [List.length_append, HNA.out, ← strs_snoc]
          exact hown1
        · have := HKL.out
          simp [intOf]; omega
      · have c10 : ((c.toNat : Int) == 10) = false := byte_ne c 10 (by decide) hc
        have HRN : Hid (rln [] l = A ++ rln ((l.drop s).take (i + 1 - s)) (l.drop (i + 1))) := Lib.hid (by rw [HR.out, e, rln, if_neg hc, HTK.out, HD.out])
        have HKL := Lib.hid hkl
        clear hc e hd hkl HTK
        go_wp2_with fail
        refine ⟨⟨A, s, i + 1, rfl, by go_num, by omega, HKL.out, by rw [HNA.out]; omega, HRN.out, by rw [HNA.out]; exact HO.out, HB.out⟩, ?_⟩
        have := HKL.out
        simp [intOf]; omega
end Go.Proofs.YtagiddbfhlokcaaGreatDoor.Ser
/- Rows of rows in memory; a batch: plain law. No condition. -/
namespace Go.Proofs.YtagiddbfhlokcaaGreatDoor.Ser
open Go.RowKit Go.Sort
set_option maxRecDepth 100000
/-- A row's value: name, tags' slice, fields' slice, time. -/
structure Ro where
  nm : ByteArray
  a : Option Addr
  n : Nat
  c : Nat
  fa : Option Addr
  m : Nat
  fc : Nat
  t : Int
def encR (r : Ro) : List Value := [.string r.nm, .slice r.a r.n r.c, .slice r.fa r.m r.fc, .int .i64 r.t]
def encN (p : Int × Ro) : List Value := .int .i64 p.1 :: encR p.2
def encX (p : Int × Int) : List Value := [.int .i64 p.1, .int .i64 p.2]
theorem encR_len (r : Ro) : (encR r).length = 4 := rfl
theorem encN_len (p : Int × Ro) : (encN p).length = 5 := rfl
theorem encX_len (p : Int × Int) : (encX p).length = 2 := rfl
def RoIs (w : World) (r : Ro) (R : LR) : Prop := RowIs R w r.nm r.a r.n r.fa r.m r.t
/-- A row's own blocks are none of 'row'. -/
def Away (row : Option Nat) (r : Ro) : Prop := (0 < r.n → r.a.map (·.block) ≠ row) ∧ (0 < r.m → r.fa.map (·.block) ≠ row)
def Past (B : Nat) (r : Ro) : Prop := (0 < r.n → ∃ b, r.a.map (·.block) = some b ∧ B ≤ b) ∧ (0 < r.m → ∃ b, r.fa.map (·.block) = some b ∧ B ≤ b)
theorem RoIs.later {w w' : World} {r : Ro} {R : LR} (h : RoIs w r R) (hb : Below w.heap.size w w') : RoIs w' r R := RowIs.later h hb
theorem RoIs.kept {w w' : World} {r : Ro} {R : LR} {row : Option Nat} (h : RoIs w r R) (hg : w.grownBy w' row) (ha : Away row r) : RoIs w' r R :=
  ⟨h.name, h.tn, h.fn, h.tm, fun i hi => by
    obtain ⟨b, off, h1, h2, h3, h4⟩ := h.tags i hi
    have hne : some b ≠ row := by have := ha.1 (by omega); rw [h1] at this; exact this
    have hbl := hg.block b h2 hne
    exact ⟨b, off, h1, Nat.lt_of_lt_of_le h2 hg.size, by rw [← h3]; exact World.cell?_of_block (w := w) hbl, by rw [← h4]; exact World.cell?_of_block (w := w) hbl⟩, fun i hi => by
    obtain ⟨b, off, h1, h2, h3, h4, h5, h6⟩ := h.fields i hi
    have hfn := h.fn
    have hne : some b ≠ row := by have := ha.2 (by omega); rw [h1] at this; exact this
    have hbl := hg.block b h2 hne
    exact ⟨b, off, h1, Nat.lt_of_lt_of_le h2 hg.size, by rw [← h3]; exact World.cell?_of_block (w := w) hbl, by rw [← h4]; exact World.cell?_of_block (w := w) hbl, by rw [← h5]; exact World.cell?_of_block (w := w) hbl, by rw [← h6]; exact World.cell?_of_block (w := w) hbl⟩⟩
/-- A row that lies in a world lies away from what is new. -/
theorem RoIs.away {w : World} {r : Ro} {R : LR} (h : RoIs w r R) {g : Nat} (hg : w.heap.size ≤ g) : Away (some g) r := by
  have htn := h.tn
  have hfn := h.fn
  refine ⟨fun hn e => ?_, fun hn e => ?_⟩
  · obtain ⟨b, off, h1, h2, _⟩ := h.tags 0 (by omega)
    rw [h1] at e
    injection e with e
    simp only at e
    omega
  · obtain ⟨b, off, h1, h2, _⟩ := h.fields 0 (by omega)
    rw [h1] at e
    injection e with e
    simp only at e
    omega
theorem Past.away {B : Nat} {r : Ro} (h : Past B r) {row : Option Nat} (hr : ∀ g, row = some g → g < B) : Away row r := by
  refine ⟨fun hn e => ?_, fun hn e => ?_⟩
  · obtain ⟨b, h1, h2⟩ := h.1 hn
    have := hr b (by rw [← e, h1])
    omega
  · obtain ⟨b, h1, h2⟩ := h.2 hn
    have := hr b (by rw [← e, h1])
    omega
/-- What a parser answers is a row of its own. -/
theorem rowPost_ro {R : LR} {w w' : World} {e : Ending} (h : RowPost R w e w') : Below w.heap.size w w' ∧ ∃ r : Ro, e = .returned (.tuple #[.agg #[.string r.nm, .slice r.a r.n r.c, .slice r.fa r.m r.fc, .int .i64 r.t], .int .i64 R.1]) ∧ RoIs w' r R ∧ Past w.heap.size r := by
  obtain ⟨hb, hm⟩ := h
  refine ⟨hb, ?_⟩
  cases ho : R.2 with
  | none =>
    rw [ho] at hm
    simp only at hm
    have hc : cont R = (⟨#[]⟩, [], [], 0) := by unfold cont; rw [ho]; rfl
    refine ⟨⟨⟨#[]⟩, none, 0, 0, none, 0, 0, 0⟩, hm, ⟨by rw [hc], by rw [hc]; rfl, by rw [hc]; rfl, by rw [hc], fun i hi => absurd hi (Nat.not_lt_zero i), ?_⟩, ⟨fun h => absurd h (Nat.lt_irrefl 0), fun h => absurd h (Nat.lt_irrefl 0)⟩⟩
    rw [hc]
    exact fun i hi => absurd hi (Nat.not_lt_zero i)
  | some r =>
    rw [ho] at hm
    obtain ⟨v, vf, he, hrt, hrf, _⟩ := hm
    have hc : cont R = r := by unfold cont; rw [ho]; rfl
    obtain ⟨a1, c1, rfl⟩ := hrt.slice
    obtain ⟨a2, c2, rfl⟩ := hrf.slice
    refine ⟨⟨r.1, a1, _, c1, a2, _, c2, r.2.2.2⟩, he, ⟨by rw [hc], by rw [hc], by rw [hc], by rw [hc], by rw [hc]; exact hrt.at, by rw [hc]; exact hrf.at⟩, ⟨fun hn => ?_, fun hn => ?_⟩⟩
    · obtain ⟨g, c', hv, hg, _⟩ := hrt.form hn
      injection hv with hv
      exact ⟨g, by rw [hv]; rfl, hg⟩
    · obtain ⟨g, c', hv, hg, _⟩ := hrf.form hn
      injection hv with hv
      exact ⟨g, by rw [hv]; rfl, hg⟩
/-- A line that says nothing. -/
def noise (p : List UInt8) : Bool := p.isEmpty || headIs 35 p
abbrev BS := List (Int × LR) × List (Int × Int)
def bstep (V : List UInt8 → Value × Int) (now : Int) (s : BS) (k : Nat) (p : List UInt8) : BS :=
  if noise p then s else if (lineP V now p).1 = 0 then (s.1 ++ [((k : Int) + 1, lineP V now p)], s.2) else (s.1, s.2 ++ [((k : Int) + 1, (lineP V now p).1)])
/-- What the first k lines give. -/
def bst (V : List UInt8 → Value × Int) (now : Int) (Ls : List (List UInt8)) : Nat → BS
  | 0 => ([], [])
  | k + 1 => bstep V now (bst V now Ls k) k (Ls.getD k [])
def batP (V : List UInt8 → Value × Int) (now : Int) (Ls : List (List UInt8)) : BS := if 1000 < Ls.length then ([], [(0, 4)]) else bst V now Ls Ls.length
theorem bst_len (V : List UInt8 → Value × Int) (now : Int) (Ls : List (List UInt8)) : ∀ k, (bst V now Ls k).1.length ≤ k ∧ (bst V now Ls k).2.length ≤ k
  | 0 => ⟨Nat.le_refl _, Nat.le_refl _⟩
  | k + 1 => by
    obtain ⟨h1, h2⟩ := bst_len V now Ls k
    unfold bst bstep
    split
    · exact ⟨by omega, by omega⟩
    · split
      · simp; omega
      · simp; omega
/-- Rows in a list, as they were read. -/
inductive Rows2 (w : World) : List (Int × Ro) → List (Int × LR) → Prop
  | nil : Rows2 w [] []
  | cons {x : Int × Ro} {y : Int × LR} {es : List (Int × Ro)} {rs : List (Int × LR)} (h : x.1 = y.1 ∧ RoIs w x.2 y.2) (hr : Rows2 w es rs) : Rows2 w (x :: es) (y :: rs)
theorem Rows2.later {w w' : World} (hb : Below w.heap.size w w') {es : List (Int × Ro)} {rs : List (Int × LR)} (h : Rows2 w es rs) : Rows2 w' es rs := by
  induction h with
  | nil => exact .nil
  | cons h _ ih => exact .cons ⟨h.1, h.2.later hb⟩ ih
theorem Rows2.kept {w w' : World} {row : Option Nat} (hg : w.grownBy w' row) {es : List (Int × Ro)} {rs : List (Int × LR)} (h : Rows2 w es rs) : (∀ x ∈ es, Away row x.2) → Rows2 w' es rs := by
  induction h with
  | nil => exact fun _ => .nil
  | cons h _ ih => exact fun ha => .cons ⟨h.1, h.2.kept hg (ha _ (List.mem_cons_self ..))⟩ (ih fun x hx => ha x (List.mem_cons_of_mem _ hx))
theorem Rows2.away {w : World} {g : Nat} (hg : w.heap.size ≤ g) {es : List (Int × Ro)} {rs : List (Int × LR)} (h : Rows2 w es rs) : ∀ x ∈ es, Away (some g) x.2 := by
  induction h with
  | nil => exact fun x hx => nomatch hx
  | cons h _ ih =>
    intro x hx
    rcases List.mem_cons.1 hx with rfl | hx
    · exact h.2.away hg
    · exact ih x hx
theorem Rows2.snoc {w : World} {es : List (Int × Ro)} {rs : List (Int × LR)} {x : Int × Ro} {y : Int × LR} (h : Rows2 w es rs) (hx : x.1 = y.1 ∧ RoIs w x.2 y.2) : Rows2 w (es ++ [x]) (rs ++ [y]) := by
  induction h with
  | nil => exact .cons hx .nil
  | cons h _ ih => exact .cons h ih
theorem Rows2.length {w : World} {es : List (Int × Ro)} {rs : List (Int × LR)} (h : Rows2 w es rs) : es.length = rs.length := by
  induction h with
  | nil => rfl
  | cons _ _ ih => simp [ih]
theorem Rows2.get {w : World} {es : List (Int × Ro)} {rs : List (Int × LR)} (h : Rows2 w es rs) : ∀ (i : Nat) (h1 : i < es.length) (h2 : i < rs.length), es[i].1 = rs[i].1 ∧ RoIs w es[i].2 rs[i].2 := by
  induction h with
  | nil => exact fun i h1 => absurd h1 (Nat.not_lt_zero i)
  | cons h _ ih =>
    intro i h1 h2
    cases i with
    | zero => exact h
    | succ i => exact ih i (by simpa using h1) (by simpa using h2)
end Go.Proofs.YtagiddbfhlokcaaGreatDoor.Ser
/- The lines' rows, by the program: the walk. Conditions: the text's length; the readers of values. -/
namespace Go.Proofs.YtagiddbfhlokcaaGreatDoor.Ser
open Go.RowKit Go.Sort
set_option maxRecDepth 100000
theorem split76 (t : List UInt8) (mx : Int) (w : World) (ht : t.length ≤ 1073741824) (h4 : w.cell? ⟨4, 0, none⟩ = some (.int .i64 mx)) :
    Calls Tryz.prog 76 #[.string (bs t), .string ⟨#[10]⟩] w fun e w' => e = .returned (.slice (some ⟨w.heap.size, 0, none⟩) (sp t).length (sp t).length) ∧ w' = w.alloc (.cells (strs (sp t)).toArray 9) := by
  have e1 : (Lib.splitB ⟨#[10]⟩ 0 (Lib.countB (bs t) ⟨#[10]⟩) (bs t)).map (·.data.toList) = sp t := by
    rw [Lib.splitB_data]
    show Lib.splitK [10] 0 (Lib.count (bs t).data.toList [10]) (bs t).data.toList = _
    rw [bs_list]
    exact split_sp t
  have e2 : Lib.countB (bs t) ⟨#[10]⟩ + 1 = (sp t).length := by
    rw [← e1, List.length_map, Lib.splitB_all _ (by decide) 0 _ _ rfl]
  have e3 : (Lib.splitB ⟨#[10]⟩ 0 (Lib.countB (bs t) ⟨#[10]⟩) (bs t)).map Value.string = strs (sp t) := by
    rw [← e1]
    unfold strs
    rw [List.map_map]
    apply List.map_congr_left
    intro a _
    show Value.string a = Value.string (bs a.data.toList)
    rw [← bs_eta]
  have := Tryz.strings_Split (bs t) ⟨#[10]⟩ mx w (by rw [bs_size]; omega) h4 (by decide)
  rw [e2, e3] at this
  exact this
theorem trim77 (l : List UInt8) (w : World) (hl : l.length ≤ 1073741824) : Calls Tryz.prog 77 #[.string (bs l), .string ⟨#[10]⟩] w fun e w' => e = .returned (.string (bs (Lib.trimSuffix l [10]))) ∧ w = w' := by
  refine (Tryz.strings_TrimSuffix (bs l) ⟨#[10]⟩ w (by rw [bs_size]; omega)).mono ?_
  rintro e w' ⟨rfl, h⟩
  refine ⟨?_, h.symm⟩
  rw [bs_list]
  rfl
theorem trimS_len (l : List UInt8) : (Lib.trimSuffix l [10]).length ≤ l.length := by
  unfold Lib.trimSuffix
  split <;> simp
theorem info76 : (Tryz.prog.info? 76).map (fun i => (i.zero, i.size, i.bytes)) = some (some (.agg #[.int .i64 0, .string ⟨#[]⟩, .slice none 0 0, .slice none 0 0, .int .i64 0]), 5, 80) := by kernel_rfl
theorem info38 : (Tryz.prog.info? 38).map (fun i => (i.zero, i.size, i.bytes)) = some (some (.agg #[.int .i64 0, .int .i64 0]), 2, 16) := by kernel_rfl
theorem info27 : (Tryz.prog.info? 27).map (fun i => (i.zero, i.size, i.bytes)) = some (some (.agg #[.string ⟨#[]⟩, .slice none 0 0, .slice none 0 0, .int .i64 0]), 4, 72) := by kernel_rfl
def RowsPost (S : BS) (w : World) (e : Ending) (w' : World) : Prop :=
  Below w.heap.size w w' ∧ ∃ v7 v8 es, e = .returned (.tuple #[v7, v8]) ∧ w'.ownsRow w.heap.size 76 5 v7 es.length (es.flatMap encN) ∧ w'.ownsRow w.heap.size 38 2 v8 S.2.length (S.2.flatMap encX) ∧ Rows2 w' es S.1
structure RMem (es : List (Int × Ro)) (S : BS) (v7 v8 : Value) (B : Nat) (w wr : World) : Prop where
  o7 : wr.ownsRow B 76 5 v7 es.length (es.flatMap encN)
  o8 : wr.ownsRow B 38 2 v8 S.2.length (S.2.flatMap encX)
  rows : Rows2 wr es S.1
  a7 : ∀ x ∈ es, Away v7.ownBlock x.2
  a8 : ∀ x ∈ es, Away v8.ownBlock x.2
  ap : ∀ g, v7.ownBlock = some g → v8.ownBlock ≠ some g
  bel : Below B w wr
theorem RMem.later {es : List (Int × Ro)} {S : BS} {v7 v8 : Value} {B : Nat} {w wr w' : World} (h : RMem es S v7 v8 B w wr) (hB : B ≤ wr.heap.size) (hb : Below wr.heap.size wr w') : RMem es S v7 v8 B w w' :=
  ⟨own_later h.o7 hb, own_later h.o8 hb, h.rows.later hb, h.a7, h.a8, h.ap, h.bel.trans (hb.mono hB)⟩
theorem numb_slice {e : TypeId} {size : Nat} {w : World} {base : Nat} {v : Value} {n : Nat} {xs : List Value} (h : w.ownsRow base e size v n xs) : ∃ a cap, v = .slice a n cap := by
  rcases h.2 with ⟨rfl, hx⟩ | ⟨g, cap, cur, rfl, _⟩
  · subst hx; exact ⟨none, 0, rfl⟩
  · exact ⟨_, _, rfl⟩
/-- Behind an append to the faults. -/
theorem RMem.addF {es : List (Int × Ro)} {S : BS} {v7 v8 v1 : Value} {B : Nat} {w wr w' : World} {o : Obj} {p : Int × Int} {n : Nat} {xs : List Value} (h : RMem es S v7 v8 B w wr) (hB : B ≤ wr.heap.size) (hg : (wr.alloc o).grownBy w' v8.ownBlock)
    (hat : v1.ownBlock = v8.ownBlock ∨ v1.ownBlock = some (wr.alloc o).heap.size) (hown : w'.ownsRow B 38 2 v1 n xs) (hn : n = S.2.length + 1) (hx : xs = S.2.flatMap encX ++ encX p) : RMem es (S.1, S.2 ++ [p]) v7 v1 B w w' := by
  subst hn hx
  have hal : Below wr.heap.size wr (wr.alloc o) := (Below.refl _ _).alloc (Nat.le_refl _) o
  have hr := h.rows.later hal
  have hsz : wr.heap.size + 1 = (wr.alloc o).heap.size := by simp
  refine ⟨(own_later h.o7 hal).kept hg ?_, ?_, hr.kept hg h.a8, h.a7, ?_, ?_, (h.bel.alloc hB o).grown hg (by omega) (fun j hj => (h.o8.lt j hj).1)⟩
  · cases hv : v7.ownBlock with
    | none => exact .inl rfl
    | some g => exact .inr fun e => h.ap g hv e.symm
  · rw [List.length_append, List.flatMap_append]
    simpa using hown
  · rcases hat with h1 | h1
    · rw [h1]; exact h.a8
    · rw [h1]; exact hr.away (Nat.le_refl _)
  · intro g hv e
    rcases hat with h1 | h1
    · rw [h1] at e; exact h.ap g hv e
    · rw [h1] at e
      have := (h.o7.lt g hv).2
      injection e with e
      omega
/-- Behind an append to the rows. -/
theorem RMem.addR {es : List (Int × Ro)} {S : BS} {v7 v8 v1 : Value} {B : Nat} {w wr w' : World} {o : Obj} {x : Int × Ro} {y : Int × LR} {n : Nat} {xs : List Value} (h : RMem es S v7 v8 B w wr) (hB : B ≤ wr.heap.size) (hg : (wr.alloc o).grownBy w' v7.ownBlock)
    (hat : v1.ownBlock = v7.ownBlock ∨ v1.ownBlock = some (wr.alloc o).heap.size) (hown : w'.ownsRow B 76 5 v1 n xs) (hn : n = es.length + 1) (hx : xs = es.flatMap encN ++ encN x)
    (hxy : x.1 = y.1 ∧ RoIs wr x.2 y.2) (hx7 : Away v7.ownBlock x.2) (hx8 : Away v8.ownBlock x.2) : RMem (es ++ [x]) (S.1 ++ [y], S.2) v1 v8 B w w' := by
  subst hn hx
  have hal : Below wr.heap.size wr (wr.alloc o) := (Below.refl _ _).alloc (Nat.le_refl _) o
  have hr := (h.rows.later hal).snoc ⟨hxy.1, hxy.2.later hal⟩
  have hsz : wr.heap.size + 1 = (wr.alloc o).heap.size := by simp
  have m7 : ∀ z ∈ es ++ [x], Away v7.ownBlock z.2 := fun z hz => by
    rcases List.mem_append.1 hz with hz | hz
    · exact h.a7 z hz
    · simp at hz; subst hz; exact hx7
  have m8 : ∀ z ∈ es ++ [x], Away v8.ownBlock z.2 := fun z hz => by
    rcases List.mem_append.1 hz with hz | hz
    · exact h.a8 z hz
    · simp at hz; subst hz; exact hx8
  refine ⟨?_, (own_later h.o8 hal).kept hg ?_, hr.kept hg m7, ?_, m8, ?_, (h.bel.alloc hB o).grown hg (by omega) (fun j hj => (h.o7.lt j hj).1)⟩
  · rw [List.length_append, List.flatMap_append]
    simpa using hown
  · cases hv : v8.ownBlock with
    | none => exact .inl rfl
    | some g => exact .inr fun e => h.ap g e.symm hv
  · rcases hat with h1 | h1
    · rw [h1]; exact m7
    · rw [h1]; exact hr.away (Nat.le_refl _)
  · intro g hv e
    rcases hat with h1 | h1
    · rw [h1] at hv; exact h.ap g hv e
    · rw [h1] at hv
      have := (h.o8.lt g e).2
      injection hv with hv
      omega
def InRw (V : List UInt8 → Value × Int) (now : Int) (Ls : List (List UInt8)) (B : Nat) (w : World) (v7 v8 i : Value) (wr : World) : Prop :=
  ∃ (k : Nat) (es : List (Int × Ro)), i = .int .i64 k ∧ k ≤ Ls.length ∧ es.length ≤ k ∧ (bst V now Ls k).2.length ≤ k ∧ RMem es (bst V now Ls k) v7 v8 B w wr
end Go.Proofs.YtagiddbfhlokcaaGreatDoor.Ser
