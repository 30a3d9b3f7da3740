/- The walk of MergeEnds: the plan, done again and again, comes to its end. Condition: the reach of the form. -/
import Derived.Test.YtkiladicdpahjaaD
import Derived.WalkSpells
namespace Go.Proofs.Ytkiladicdpahjaa
open Go.RowKit Go.Deep Go.WideShapes Go.ChangeShapes
def pot (n : Nat) (tb : Bool) : Nat := if n = 0 then 0 else if n = 1 then (if tb then 1 else 0) else n
def InEnds (L : Nat) (w : World) (f i : Value) (wr : World) : Prop :=
  ∃ (k n cap : Nat) (a : Option Addr) (lv : Nat → Int) (tb : Nat → Bool), i = .int .i64 k ∧ k ≤ L + 1 ∧ f = .slice a n cap ∧ InfosAt wr a n lv tb ∧ (∀ i, -9223372036854775808 ≤ lv i ∧ lv i ≤ 9223372036854775807) ∧
    pot n (tb 0) + k ≤ L ∧ n ≤ 300 ∧ n ≤ cap ∧ cap ≤ maxLen ∧ Below w.heap.size w wr
theorem plan_cases (lv : Nat → Int) (tb : Bool) (n : Nat) (hlv : ∀ i, -9223372036854775808 ≤ lv i ∧ lv i ≤ 9223372036854775807) :
    (plan lv tb n = (0, 0, 0) ∧ (n = 0 ∨ n = 1 ∧ tb = false)) ∨
    ∃ (at' m : Nat) (level : Int), plan lv tb n = ((at' : Int), (m : Int), level) ∧ 0 < m ∧ at' + m ≤ n ∧ (-9223372036854775808 ≤ level ∧ level ≤ 9223372036854775807) ∧ pot (n - m + 1) (if at' = 0 then false else tb) < pot n tb := by
  unfold plan
  cases h : firstHit lv n with
  | some i =>
    right
    have hi := List.mem_of_find?_eq_some h
    have hp := List.find?_some h
    simp only [hit, Bool.and_eq_true, decide_eq_true_eq] at hp
    simp at hi
    refine ⟨i, 4, lv i + 1, rfl, by omega, by omega, by have := hlv i; omega, ?_⟩
    unfold pot
    by_cases h0 : i = 0
    · rw [if_pos h0]
      split
      · omega
      · rw [if_neg (by omega : ¬ n = 0), if_neg (by omega : ¬ n = 1)]
        split
        · simp; omega
        · omega
    · rw [if_neg h0, if_neg (by omega : ¬ n - 4 + 1 = 0), if_neg (by omega : ¬ n - 4 + 1 = 1), if_neg (by omega : ¬ n = 0), if_neg (by omega : ¬ n = 1)]
      omega
  | none =>
    dsimp only
    by_cases h2 : 2 ≤ n
    · right
      rw [if_pos h2]
      refine ⟨0, n, 4, rfl, by omega, by omega, by omega, ?_⟩
      unfold pot
      rw [show n - n + 1 = 1 from by omega]
      simp
      rw [if_neg (by omega), if_neg (by omega)]
      omega
    · rw [if_neg h2]
      by_cases h1 : n = 1 ∧ tb = true
      · right
        obtain ⟨rfl, rfl⟩ := h1
        refine ⟨0, 1, lv 0, rfl, by omega, by omega, hlv 0, ?_⟩
        simp [pot]
      · left
        rw [if_neg h1]
        refine ⟨rfl, ?_⟩
        cases tb
        · have : n = 0 ∨ n = 1 := by omega
          rcases this with h | h
          · exact .inl h
          · exact .inr ⟨h, rfl⟩
        · have : ¬ n = 1 := fun e => h1 ⟨e, rfl⟩
          exact .inl (by omega)
theorem infos_of_own' {w : World} {base len : Nat} {v : Value} {lv : Nat → Int} {tb : Nat → Bool} (h : w.ownsRow base 31 2 v len (cellsOf lv tb len)) : ∃ a cap, v = .slice a len cap ∧ InfosAt w a len lv tb ∧ len ≤ cap ∧ cap ≤ maxLen := by
  obtain ⟨a, cap, rfl, hat⟩ := infos_of_own h
  refine ⟨a, cap, rfl, hat, ?_⟩
  obtain ⟨_, ⟨h1, h2⟩ | ⟨g, cap', cur, h1, hg, hh, hle, hcap, hcs, htake⟩⟩ := h
  · cases h1; exact ⟨Nat.le_refl _, by unfold maxLen; omega⟩
  · cases h1; exact ⟨hle, hcap⟩
theorem cells31 : Try.prog.cellsOf 31 = 2 := by kernel_rfl
theorem InfosAt.later {w w' : World} {a : Option Addr} {n : Nat} {lv : Nat → Int} {tb : Nat → Bool} (h : InfosAt w a n lv tb) (hb : Below w.heap.size w w') : InfosAt w' a n lv tb := fun i hi => by
  obtain ⟨b, off, h1, h2, h3, h4⟩ := h i hi
  exact ⟨b, off, h1, Nat.lt_of_lt_of_le h2 hb.size, by rw [← h3]; exact hb.cell h2, by rw [← h4]; exact hb.cell h2⟩
theorem own_empty (w : World) : (w.alloc (.cells #[] 31)).ownsRow w.heap.size 31 2 (.slice (some ⟨w.heap.size, 0, none⟩) 0 0) 0 [] :=
  ⟨rfl, .inr ⟨w.heap.size, 0, #[], rfl, Nat.le_refl _, heap_alloc_new w _, Nat.le_refl _, by unfold maxLen; omega, rfl, rfl⟩⟩
theorem cellsOf_one (lv : Nat → Int) (tb : Nat → Bool) (n : Nat) : ∀ u ∈ cellsOf lv tb n, u.oneCell' = true := by
  intro u hu
  simp only [cellsOf, List.mem_flatMap] at hu
  obtain ⟨i, _, hi⟩ := hu
  simp at hi
  rcases hi with rfl | rfl <;> rfl
theorem seg_of {w : World} {b off n q s : Nat} {lv : Nat → Int} {tb : Nat → Bool} (h : InfosAt w (some ⟨b, off, none⟩) n lv tb) (hq : s + q ≤ n) :
    ∀ j u, (cellsOf (fun x => lv (s + x)) (fun x => tb (s + x)) q)[j]? = some u → w.cell? (Addr.add ⟨b, off + s * 2, none⟩ j) = some u := by
  intro j u hj
  have hlt : j < q * 2 := by have := (List.getElem?_eq_some_iff.1 hj).1; rwa [cellsOf_len] at this
  obtain ⟨b', off', e1, _, e2, e3⟩ := h (s + j / 2) (by omega)
  cases e1
  have hadd : (Addr.add ⟨b, off + s * 2, none⟩ j) = ⟨b, off + s * 2 + j, none⟩ := by
    unfold Addr.add; split
    · simp_all
    · rfl
  rw [hadd]
  have g := cellsOf_get (fun x => lv (s + x)) (fun x => tb (s + x)) q (j / 2) (by omega)
  have : j = j / 2 * 2 ∨ j = j / 2 * 2 + 1 := by omega
  rcases this with hh | hh
  · rw [hh, g.1] at hj
    rw [show off + s * 2 + j = off + (s + j / 2) * 2 from by omega, e2]; exact hj
  · rw [hh, g.2] at hj
    rw [show off + s * 2 + j = off + (s + j / 2) * 2 + 1 from by omega, e3]; exact hj
theorem news_of {w : World} {b off n q : Nat} {lv : Nat → Int} {tb : Nat → Bool} (h : InfosAt w (some ⟨b, off, none⟩) n lv tb) (o : Obj) (hq : q ≤ n) :
    ∀ j u, (cellsOf lv tb q)[j]? = some u → (w.alloc o).cell? (Addr.add ⟨b, off, none⟩ j) = some u := by
  have h' : InfosAt (w.alloc o) (some ⟨b, off, none⟩) n lv tb := h.later ((Below.refl _ _).alloc (Nat.le_refl _) _)
  have := seg_of (s := 0) (q := q) h' (by omega)
  simpa using this
theorem slice_tail (b off n cp l : Nat) (z : Int) (hz : z = (l : Int)) (hl : l ≤ n) (hn : n ≤ cp) (hl0 : 0 < l) : ∃ sa q c, (∀ w, (Instr.slice 26 (.slice (some ⟨b, off, none⟩) n cp) (some (.int .i64 z)) none none).run Try.prog w = .ok (.slice (some sa) q c) w) ∧ q = n - l ∧ (q = 0 ∨ sa = ⟨b, off + l * 2, none⟩) := by
  subst hz
  refine ⟨if cp = l then ⟨b, off, none⟩ else ⟨b, off + l * 2, none⟩, n - l, cp - l, fun w => ?_, rfl, ?_⟩
  · have h1 : ¬ n < l := by omega
    have h0 : ¬ l = 0 := by omega
    by_cases h : cp = l
    · subst h; simp [Instr.slice, Instr.sliceBounds, Instr.sliceBound, asIntOf, go_sem]; omega
    · simp [Instr.slice, Instr.sliceBounds, Instr.sliceBound, asIntOf, go_sem, h]; omega
  · by_cases h : cp = l
    · left; omega
    · right; rw [if_neg h]
theorem cellsOf_append (f : Nat → Int) (g : Nat → Bool) (p q : Nat) : cellsOf f g (p + q) = cellsOf f g p ++ cellsOf (fun x => f (p + x)) (fun x => g (p + x)) q := by
  simp [cellsOf, List.range_add, List.flatMap_append, List.flatMap_map]
theorem cellsOf_congr {f f' : Nat → Int} {g g' : Nat → Bool} {n : Nat} (h : ∀ i, i < n → f i = f' i ∧ g i = g' i) : cellsOf f g n = cellsOf f' g' n := by
  induction n with
  | zero => rfl
  | succ n ih => rw [cellsOf_succ, cellsOf_succ, ih (fun i hi => h i (by omega)), (h n (by omega)).1, (h n (by omega)).2]
def newL (lv : Nat → Int) (p m : Nat) (level : Int) : Nat → Int := fun i => if i < p then lv i else if i = p then level else lv (i - 1 + m)
def newT (tb : Nat → Bool) (p m : Nat) : Nat → Bool := fun i => if i < p then tb i else if i = p then false else tb (i - 1 + m)
theorem new_cells (lv : Nat → Int) (tb : Nat → Bool) (p m q : Nat) (level : Int) :
    (cellsOf lv tb p ++ [.int .i64 level, .bool false]) ++ cellsOf (fun x => lv (p + m + x)) (fun x => tb (p + m + x)) q = cellsOf (newL lv p m level) (newT tb p m) (p + 1 + q) := by
  rw [cellsOf_append, cellsOf_succ]
  congr 1
  · congr 1
    · exact cellsOf_congr fun i hi => by simp [newL, newT, hi]
    · simp [newL, newT]
  · refine cellsOf_congr fun i _ => ?_
    have h1 : ¬ p + 1 + i < p := by omega
    have h2 : ¬ p + 1 + i = p := by omega
    simp only [newL, newT, if_neg h1, if_neg h2]
    rw [show p + 1 + i - 1 + m = p + m + i from by omega]
    exact ⟨rfl, rfl⟩
theorem below35 {w3 w4 w5 : World} {p : Nat} {v1 : Value} {xs : List Value} {o o' : Obj} (hg1 : (w3.alloc o).grownBy w4 (Value.slice (some ⟨w3.heap.size, 0, none⟩) 0 0).ownBlock) (hown1 : w4.ownsRow w3.heap.size 31 2 v1 p xs)
    (hg2 : (w4.alloc o').grownBy w5 v1.ownBlock) : Below w3.heap.size w3 w5 := by
  have h4 : Below w3.heap.size w3 w4 := ((Below.refl _ _).alloc (Nat.le_refl _) _).grown hg1 (by simp) (fun j hj => by simp [Value.ownBlock] at hj; omega)
  exact (h4.alloc h4.size _).grown hg2 (by have := h4.size; simp; omega) (fun j hj => own_ge hown1 hj)
theorem ends_round {LL n p m : Nat} {k : Nat} {lv : Nat → Int} {tb : Nat → Bool} {level : Int} {W2 w6 : World} {base : Nat} {v : Value} {q : Nat}
    (hown : w6.ownsRow base 31 2 v (p + 1 + q) (cellsOf lv tb p ++ .int .i64 level :: .bool false :: cellsOf (fun x => lv (p + m + x)) (fun x => tb (p + m + x)) q)) (hq : q = n - (p + m))
    (hm : 0 < m) (hle : p + m ≤ n) (hn : n ≤ 300) (hlv : ∀ i, -9223372036854775808 ≤ lv i ∧ lv i ≤ 9223372036854775807) (hlev : -9223372036854775808 ≤ level ∧ level ≤ 9223372036854775807)
    (hpot : pot (n - m + 1) (if p = 0 then false else tb 0) < pot n (tb 0)) (hP : pot n (tb 0) + k ≤ LL) (hb : Below W2.heap.size W2 w6) :
    InEnds LL W2 v (.int .i64 ((k : Int) + 1)) w6 ∧ LL + 1 - (intOf (Value.int IntKind.i64 ((k : Int) + 1))).toNat < LL + 1 - (intOf (Value.int IntKind.i64 (k : Int))).toNat := by
  have hown : w6.ownsRow base 31 2 v (p + 1 + q) ((cellsOf lv tb p ++ [.int .i64 level, .bool false]) ++ cellsOf (fun x => lv (p + m + x)) (fun x => tb (p + m + x)) q) := by simpa using hown
  rw [new_cells lv tb p m q level] at hown
  obtain ⟨a, cap, rfl, hat, hc1, hc2⟩ := infos_of_own' hown
  refine ⟨⟨k + 1, p + 1 + q, cap, a, newL lv p m level, newT tb p m, by go_num, by omega, rfl, hat, ?_, ?_, by omega, hc1, hc2, hb⟩, ?_⟩
  · intro i
    unfold newL
    split
    · exact hlv i
    · split
      · exact hlev
      · exact hlv _
  · have e1 : p + 1 + q = n - m + 1 := by omega
    have e2 : newT tb p m 0 = if p = 0 then false else tb 0 := by
      unfold newT
      by_cases h : p = 0
      · subst h; simp
      · rw [if_pos (by omega), if_neg h]
    rw [e1, e2]
    omega
  · simp [intOf]; omega
set_option maxRecDepth 100000 in
set_option maxHeartbeats 2000000 in
theorem mergeEnds_walk (H : Type) (enc : TypeId × Value → H) (W : World) (base : Nat) (v0 : Value) (d0 : DataW H) (p0 : List MemPlace) (h0 : DataW.Trod enc Try.prog W 0 (fun _ => true) true 22 v0 d0 p0) (o0 : Value.okWide Try.prog W .any base 22 v0) (hsz : (DataW.weightsEach Try.prog [22] [d0]).all (· ≤ reachBytes) = true) :
    Calls Try.prog 4 #[v0] W fun e w' => e = .returned (.bool true) ∧ Below W.heap.size W w' := by
  obtain ⟨a, len, cap, lv, tb, rfl, hlen, hat, hlv⟩ := infos_open h0 o0 hsz
  obtain ⟨i0, hi, hz0, hz1, hz2⟩ := info_parts info31
  have HI := Lib.hid hi
  have HZ0 := Lib.hid hz0
  have HZ1 := Lib.hid hz1
  have HZ2 := Lib.hid hz2
  clear hi hz0 hz1 hz2
  have HAT := Lib.hid hat
  have HLV := Lib.hid hlv
  clear h0 o0 hsz hat hlv
  go_enter Try.func4, Try.ntmps4
  go_wp2_with fail
  refine (awake _).mono ?_
  rintro e w1 ⟨rfl, hb⟩
  have HB := Lib.hid hb
  clear hb
  go_wp2_with fail
  have hat1 : InfosAt w1 a len lv tb := fun i hi => by
    obtain ⟨b, off, h1, h2, h3, h4⟩ := HAT.out i hi
    exact ⟨b, off, h1, Nat.lt_of_lt_of_le h2 HB.out.size, by rw [← h3]; exact HB.out.cell h2, by rw [← h4]; exact HB.out.cell h2⟩
  have HAT1 := Lib.hid hat1
  clear hat1
  refine (theirs a len cap lv tb w1 hlen HAT1.out).mono ?_
  rintro e w2 ⟨v, rfl, hown, hb2⟩
  obtain ⟨a', cap', rfl, hat2, hcl, hcm⟩ := infos_of_own' hown
  have HB2 := Lib.hid hb2
  have HAT2 := Lib.hid hat2
  clear hb2 hat2 hown
  unfold maxLen at hcm
  rcases Nat.lt_or_ge 300 len with h300 | h300
  · have hd300 : decide ((300 : Int) < (len : Int)) = true := by simp; omega
    go_wp2_with fail
    go_loopw [3, 23] (fun f i wr => InEnds 300 w2 f i wr) (fun _ i _ => 300 + 1 - (intOf i).toNat)
    case atStart => exact ⟨0, 300, cap', a', lv, tb, rfl, by omega, rfl, (fun i hi => HAT2.out i (by omega)), HLV.out, by unfold pot; split <;> (try split) <;> (try split) <;> omega, by omega, by omega, by unfold maxLen; omega, Below.refl _ _⟩
    case round =>
      obtain ⟨k, n, cp, ax, lx, tx, rfl, hk, rfl, hat, hlx, hpt, hn, hnc, hcm2, hb⟩ := hrel
      have HA := Lib.hid hat
      have HL := Lib.hid hlx
      have HP := Lib.hid hpt
      have HBX := Lib.hid hb
      clear hat hlx hpt hb
      unfold maxLen at hcm2
      have hlt : k < 300 + 1 := by have := HP.out; omega
      go_wp2_with fail
      refine (mplan ax n cp lx tx wr (by omega) HL.out HA.out).mono ?_
      unfold Planned
      rcases plan_cases lx (tx 0) n HL.out with ⟨hpl, hfin⟩ | ⟨at', m, level, hpl, hm, hle, hlev, hpot⟩
      · rw [hpl]
        rintro e w3 ⟨rfl, hb3⟩
        have HB3 := Lib.hid hb3
        clear hb3
        have hbb : Below W.heap.size W w3 := ((HB.out.trans (HB2.out.mono HB.out.size)).trans (HBX.out.mono (Nat.le_trans HB.out.size HB2.out.size))).trans (HB3.out.mono (Nat.le_trans HB.out.size (Nat.le_trans HB2.out.size HBX.out.size)))
        have HBB := Lib.hid hbb
        clear hbb
        rcases hfin with rfl | ⟨rfl, htb⟩
        · go_wp2
          go_ret
          exact ⟨rfl, HBB.out⟩
        · obtain ⟨b, off, rfl, hbw, hc1, hc2⟩ := HA.out 0 (by omega)
          have hd2 : w3.cell? ⟨b, off + 1, none⟩ = some (.bool false) := by rw [← htb]; rw [← HB3.out.cell (p := ⟨b, off + 0 * 2 + 1, none⟩) hbw] at hc2; simpa using hc2
          clear hc1 hc2
          have HTB := Lib.hid htb
          clear htb
          go_wp2
          go_ret
          exact ⟨rfl, HBB.out⟩
      · rw [hpl]
        rintro e w3 ⟨rfl, hb3⟩
        have HB3 := Lib.hid hb3
        have HPL := Lib.hid hpl
        clear hb3 hpl
        obtain ⟨b, off, rfl, hbw, _, _⟩ := HA.out 0 (by omega)
        obtain ⟨sa, q, sc, hsl, hq, hsa⟩ := slice_tail b off n cp (at' + m) ((at' : Int) + (m : Int)) (by omega) hle hnc (by omega)
        have HQ := Lib.hid (And.intro hq hsa)
        have hq300 : q ≤ 300 := by omega
        clear hq hsa
        have hm0 : ((m : Int) == 0) = false := by simp; omega
        have ha3 : InfosAt w3 (some ⟨b, off, none⟩) n lx tx := HA.out.later HB3.out
        have HA3 := Lib.hid (And.intro ha3 trivial)
        clear ha3
        have HTL := Lib.hid (seg_of (s := at' + m) (q := n - (at' + m)) HA3.out.1 (by omega))
        go_wp2_with (first
          | (at_builtin; refine wpList_append_own _ rfl (.tmp 58) (.tmp 61) 26 rfl w3.heap.size 31 i0 _ 2 16 Try.underlying26 HI.out HZ0.out HZ1.out HZ2.out rfl (by omega) _ 0 [] rfl (own_empty w3) ⟨b, off, none⟩ at' cp (cellsOf lx tx at') rfl (cellsOf_len _ _ _) (news_of HA3.out.1 _ (by omega)) (cellsOf_one _ _ _) (by unfold maxLen; omega) (by omega) (by simp) ?_; intro v1 w4 hown1 hgrow1 hnn; clear hnn)
          | (at_builtin; refine wpList_append_own _ rfl (.tmp 63) (.tmp 66) 26 rfl w3.heap.size 31 i0 _ 2 16 Try.underlying26 HI.out HZ0.out HZ1.out HZ2.out rfl (by omega) _ (0 + at') _ rfl (hown1.alloc _) ⟨w4.heap.size, 0, none⟩ 1 1 [.int .i64 level, .bool false] rfl rfl (World.news_of_block (cs := #[.int .i64 level, .bool false]) (t := 31) (fr := (0, 0)) (heap_alloc_new w4 _)) (by simp [Value.oneCell']) (by unfold maxLen; omega) (by omega) (by have := hgrow1.size; simp at this ⊢; omega) ?_; intro v2 w5 hown2 hgrow2 hnn; clear hnn)
          | (at_builtin; refine wpList_append_own _ rfl (.tmp 68) (.tmp 73) 26 rfl w3.heap.size 31 i0 _ 2 16 Try.underlying26 HI.out HZ0.out HZ1.out HZ2.out rfl (by omega) _ (0 + at' + 1) _ rfl hown2 sa q sc (cellsOf (fun x => lx (at' + m + x)) (fun x => tx (at' + m + x)) q) rfl (cellsOf_len _ _ _) ?hnews (cellsOf_one _ _ _) (by unfold maxLen; omega) (by omega) ?hbs ?_))
        case hnews =>
          have hb35 := below35 hgrow1 hown1 hgrow2
          intro j u hj
          have hlt : j < q * 2 := by have := (List.getElem?_eq_some_iff.1 hj).1; rwa [cellsOf_len] at this
          rcases HQ.out.2 with h0 | h0
          · omega
          · rw [HQ.out.1] at hj
            have := HTL.out j u hj
            rw [h0]
            rw [← this]
            refine hb35.cell ?_
            have hbw3 : b < w3.heap.size := Nat.lt_of_lt_of_le hbw HB3.out.size
            unfold Addr.add; split <;> exact hbw3
        case hbs => exact (below35 hgrow1 hown1 hgrow2).size
        · intro v3 w6 hown3 hgrow3 hnn
          clear hnn
          have hb36 : Below w3.heap.size w3 w6 := (below35 hgrow1 hown1 hgrow2).grown hgrow3 (below35 hgrow1 hown1 hgrow2).size (fun j hj => own_ge hown2 hj)
          have hb26 : Below w2.heap.size w2 w6 := (HBX.out.trans (HB3.out.mono HBX.out.size)).trans (hb36.mono (Nat.le_trans HBX.out.size HB3.out.size))
          have HB26 := Lib.hid hb26
          have HO3 := Lib.hid hown3
          clear hb36 hb26 hown1 hown2 hown3 hgrow1 hgrow2 hgrow3 hsl
          go_wp2
          exact ends_round HO3.out HQ.out.1 hm hle hn HL.out hlev hpot HP.out HB26.out
  · have hd300 : decide ((300 : Int) < (len : Int)) = false := by simp; omega
    go_wp2_with fail
    go_loopw [3, 23] (fun f i wr => InEnds len w2 f i wr) (fun _ i _ => len + 1 - (intOf i).toNat)
    case atStart => exact ⟨0, len, cap', a', lv, tb, rfl, by omega, rfl, HAT2.out, HLV.out, by unfold pot; split <;> (try split) <;> (try split) <;> omega, by omega, by omega, by unfold maxLen; omega, Below.refl _ _⟩
    case round =>
      obtain ⟨k, n, cp, ax, lx, tx, rfl, hk, rfl, hat, hlx, hpt, hn, hnc, hcm2, hb⟩ := hrel
      have HA := Lib.hid hat
      have HL := Lib.hid hlx
      have HP := Lib.hid hpt
      have HBX := Lib.hid hb
      clear hat hlx hpt hb
      unfold maxLen at hcm2
      have hlt : k < len + 1 := by have := HP.out; omega
      go_wp2_with fail
      refine (mplan ax n cp lx tx wr (by omega) HL.out HA.out).mono ?_
      unfold Planned
      rcases plan_cases lx (tx 0) n HL.out with ⟨hpl, hfin⟩ | ⟨at', m, level, hpl, hm, hle, hlev, hpot⟩
      · rw [hpl]
        rintro e w3 ⟨rfl, hb3⟩
        have HB3 := Lib.hid hb3
        clear hb3
        have hbb : Below W.heap.size W w3 := ((HB.out.trans (HB2.out.mono HB.out.size)).trans (HBX.out.mono (Nat.le_trans HB.out.size HB2.out.size))).trans (HB3.out.mono (Nat.le_trans HB.out.size (Nat.le_trans HB2.out.size HBX.out.size)))
        have HBB := Lib.hid hbb
        clear hbb
        rcases hfin with rfl | ⟨rfl, htb⟩
        · go_wp2
          go_ret
          exact ⟨rfl, HBB.out⟩
        · obtain ⟨b, off, rfl, hbw, hc1, hc2⟩ := HA.out 0 (by omega)
          have hd2 : w3.cell? ⟨b, off + 1, none⟩ = some (.bool false) := by rw [← htb]; rw [← HB3.out.cell (p := ⟨b, off + 0 * 2 + 1, none⟩) hbw] at hc2; simpa using hc2
          clear hc1 hc2
          have HTB := Lib.hid htb
          clear htb
          go_wp2
          go_ret
          exact ⟨rfl, HBB.out⟩
      · rw [hpl]
        rintro e w3 ⟨rfl, hb3⟩
        have HB3 := Lib.hid hb3
        have HPL := Lib.hid hpl
        clear hb3 hpl
        obtain ⟨b, off, rfl, hbw, _, _⟩ := HA.out 0 (by omega)
        obtain ⟨sa, q, sc, hsl, hq, hsa⟩ := slice_tail b off n cp (at' + m) ((at' : Int) + (m : Int)) (by omega) hle hnc (by omega)
        have HQ := Lib.hid (And.intro hq hsa)
        have hq300 : q ≤ 300 := by omega
        clear hq hsa
        have hm0 : ((m : Int) == 0) = false := by simp; omega
        have ha3 : InfosAt w3 (some ⟨b, off, none⟩) n lx tx := HA.out.later HB3.out
        have HA3 := Lib.hid (And.intro ha3 trivial)
        clear ha3
        have HTL := Lib.hid (seg_of (s := at' + m) (q := n - (at' + m)) HA3.out.1 (by omega))
        go_wp2_with (first
          | (at_builtin; refine wpList_append_own _ rfl (.tmp 58) (.tmp 61) 26 rfl w3.heap.size 31 i0 _ 2 16 Try.underlying26 HI.out HZ0.out HZ1.out HZ2.out rfl (by omega) _ 0 [] rfl (own_empty w3) ⟨b, off, none⟩ at' cp (cellsOf lx tx at') rfl (cellsOf_len _ _ _) (news_of HA3.out.1 _ (by omega)) (cellsOf_one _ _ _) (by unfold maxLen; omega) (by omega) (by simp) ?_; intro v1 w4 hown1 hgrow1 hnn; clear hnn)
          | (at_builtin; refine wpList_append_own _ rfl (.tmp 63) (.tmp 66) 26 rfl w3.heap.size 31 i0 _ 2 16 Try.underlying26 HI.out HZ0.out HZ1.out HZ2.out rfl (by omega) _ (0 + at') _ rfl (hown1.alloc _) ⟨w4.heap.size, 0, none⟩ 1 1 [.int .i64 level, .bool false] rfl rfl (World.news_of_block (cs := #[.int .i64 level, .bool false]) (t := 31) (fr := (0, 0)) (heap_alloc_new w4 _)) (by simp [Value.oneCell']) (by unfold maxLen; omega) (by omega) (by have := hgrow1.size; simp at this ⊢; omega) ?_; intro v2 w5 hown2 hgrow2 hnn; clear hnn)
          | (at_builtin; refine wpList_append_own _ rfl (.tmp 68) (.tmp 73) 26 rfl w3.heap.size 31 i0 _ 2 16 Try.underlying26 HI.out HZ0.out HZ1.out HZ2.out rfl (by omega) _ (0 + at' + 1) _ rfl hown2 sa q sc (cellsOf (fun x => lx (at' + m + x)) (fun x => tx (at' + m + x)) q) rfl (cellsOf_len _ _ _) ?hnews (cellsOf_one _ _ _) (by unfold maxLen; omega) (by omega) ?hbs ?_))
        case hnews =>
          have hb35 := below35 hgrow1 hown1 hgrow2
          intro j u hj
          have hlt : j < q * 2 := by have := (List.getElem?_eq_some_iff.1 hj).1; rwa [cellsOf_len] at this
          rcases HQ.out.2 with h0 | h0
          · omega
          · rw [HQ.out.1] at hj
            have := HTL.out j u hj
            rw [h0]
            rw [← this]
            refine hb35.cell ?_
            have hbw3 : b < w3.heap.size := Nat.lt_of_lt_of_le hbw HB3.out.size
            unfold Addr.add; split <;> exact hbw3
        case hbs => exact (below35 hgrow1 hown1 hgrow2).size
        · intro v3 w6 hown3 hgrow3 hnn
          clear hnn
          have hb36 : Below w3.heap.size w3 w6 := (below35 hgrow1 hown1 hgrow2).grown hgrow3 (below35 hgrow1 hown1 hgrow2).size (fun j hj => own_ge hown2 hj)
          have hb26 : Below w2.heap.size w2 w6 := (HBX.out.trans (HB3.out.mono HBX.out.size)).trans (hb36.mono (Nat.le_trans HBX.out.size HB3.out.size))
          have HB26 := Lib.hid hb26
          have HO3 := Lib.hid hown3
          clear hb36 hb26 hown1 hown2 hown3 hgrow1 hgrow2 hgrow3 hsl
          go_wp2
          exact ends_round HO3.out HQ.out.1 hm hle hn HL.out hlev hpot HP.out HB26.out
end Go.Proofs.Ytkiladicdpahjaa
