/- The law of the shifts: the walk of Spin by one quarter, of the row that is built, and of WaveShifts. Condition: at most 1048576 numbers. -/
import Derived.Test.YtogiollmghnoaaaB
import Derived.Test.YtogiollmghnoaaaD
import Derived.Laws.AppendOwnNone
import Derived.ChangeSlices
import Derived.WalkSpells
import Derived.Deep.AppendLies
namespace Go.Proofs.Ytogiollmghnoaaa
open Go.RowKit Go.Deep Go.WideShapes Go.ChangeShapes
def InSpin (a b : Nat) (c i : Value) : Prop := (c = .complex .f64 a b ∧ i = .int .i64 0) ∨ (c = .complex .f64 (neg b) a ∧ i = .int .i64 1)
theorem spin1 (a b : Nat) (w : World) : Calls Try.prog 9 #[.complex .f64 a b, .int .i64 1] w fun e w' => e = .returned (.complex .f64 (neg b) a) ∧ w = w' := by
  have hneg := run_neg Try.prog w b
  go_enter Try.func9, Try.ntmps9
  go_wp2_with (go_at_call 13; refine (quarter 1 1 (by omega) rfl _).mono ?_; rintro e w' ⟨rfl, rfl⟩)
  go_loop [0, 7] (fun c i => InSpin a b c i) (fun _ i => 1 - (intOf i).toNat)
  case atStart => exact .inl ⟨rfl, rfl⟩
  case round =>
    rcases hrel with ⟨rfl, rfl⟩ | ⟨rfl, rfl⟩
    · go_wp2
      go_round
      case rel => exact .inr ⟨rfl, rfl⟩
      case measure => simp [intOf]
    · go_wp2
      go_ret
      exact ⟨rfl, rfl⟩
theorem bytes_le {H : Type} (l : List (DataW H)) : l.length ≤ Rows.uptoBulkAll l := by
  induction l with
  | nil => simp [Rows.uptoBulkAll]
  | cons x r ih =>
    have : 1 ≤ Rows.uptoBulk x := by
      cases x with
      | lit l => cases l <;> simp [Rows.uptoBulk]
      | nil => simp [Rows.uptoBulk]
      | ptr d => simp [Rows.uptoBulk]
      | slice elems spare => simp [Rows.uptoBulk]
      | agg parts => simp [Rows.uptoBulk]
      | iface t d => simp [Rows.uptoBulk]
      | map entries => simp [Rows.uptoBulk]
      | held h => simp [Rows.uptoBulk]
    simp only [Rows.uptoBulkAll, List.length_cons]; omega
def IntsAt (w : World) (a : Option Addr) (len : Nat) (zs : List Int) : Prop := ∀ i, i < len → ∃ b off, a = some ⟨b, off, none⟩ ∧ b < w.heap.size ∧ w.cell? ⟨b, off + i, none⟩ = some (.int .i16 (zs.getD i 0))
theorem shorts_open {H : Type} {enc : TypeId × Value → H} {W : World} {base : Nat} {v : Value} {d : DataW H} {p : List MemPlace}
    (h : DataW.Trod enc Try.prog W 0 (fun _ => true) true 28 v d p) (o : Value.okWide Try.prog W .any base 28 v) (hk : Rows.uptoSmall H [d] = true) :
    ∃ a len cap zs, v = .slice a len cap ∧ len ≤ 1048576 ∧ IntsAt W a len zs ∧ ∀ i, -32768 ≤ zs.getD i 0 ∧ zs.getD i 0 ≤ 32767 := by
  obtain ⟨a, len, cap, rfl⟩ := okWide_slice Try.underlying28 o
  obtain ⟨fuel, hf⟩ := h
  rcases open_ints Try.underlying28 Try.underlying30 (by kernel_rfl) hf with ⟨hcs, _⟩ | ⟨b, l, c, zs, hcs, _, hl, hm, hz, hd, hcell, hwz⟩
  · simp [Value.cells] at hcs
    obtain ⟨rfl, rfl, rfl⟩ := hcs
    exact ⟨none, 0, 0, [], rfl, by omega, fun i hi => absurd hi (by omega), fun i => by simp⟩
  · simp [Value.cells] at hcs
    obtain ⟨rfl, rfl, rfl⟩ := hcs
    simp only [if_true] at hz
    simp only [Prod.mk.injEq] at hd
    obtain ⟨rfl, _⟩ := hd
    have hlen : len ≤ 1048576 := by
      have h1 : Rows.uptoBulkAll [DataW.slice (H := H) (lits .i16 (zs.take len)) (lits .i16 (zs.drop len))] ≤ 1048576 := of_decide_eq_true hk
      simp only [Rows.uptoBulkAll, Rows.uptoBulk] at h1
      have h2 := bytes_le (lits (H := H) .i16 (zs.take len))
      have h3 : (lits (H := H) .i16 (zs.take len)).length = len := by simp [lits]; omega
      omega
    refine ⟨_, len, cap, zs, rfl, hlen, ?_, ?_⟩
    · intro i hi
      have h1 := hcell i (by omega)
      have hsp : b.spot = none := World.cell?_spot (by have := hcell 0 (by omega); simpa [Addr.add] using this)
      obtain ⟨bb, off, spot⟩ := b
      simp only at hsp
      subst hsp
      refine ⟨bb, off, rfl, ?_, ?_⟩
      · have := cell_lt h1; unfold Addr.add at this; split at this <;> exact this
      · rw [← h1]; congr 1; unfold Addr.add; split <;> simp_all
    · intro i
      by_cases hi : i < zs.length
      · have := hwz (zs.getD i 0) (by simp [List.getD, hi])
        simpa [Lit.wf, IntKind.min, IntKind.max, IntKind.signed, IntKind.bits] using this
      · have : zs.getD i 0 = 0 := by rw [List.getD_eq_getElem?_getD, List.getElem?_eq_none (by omega)]; rfl
        rw [this]; omega
/-- the row of floats that stands for the numbers -/
def fl (zs : List Int) (i : Nat) : Nat := floatOfInt .f64 (zs.getD i 0)
def flVals (zs : List Int) (k : Nat) : List Value := (List.range k).map fun i => .float .f64 (fl zs i)
theorem flVals_succ (zs : List Int) (k : Nat) : flVals zs (k + 1) = flVals zs k ++ [.float .f64 (fl zs k)] := by simp [flVals, List.range_succ]
theorem flVals_len (zs : List Int) (k : Nat) : (flVals zs k).length = k := by simp [flVals]
theorem flVals_one (zs : List Int) (k : Nat) : ∀ u ∈ flVals zs k, u.oneCell' = true := by
  intro u hu
  simp only [flVals, List.mem_map] at hu
  obtain ⟨i, _, rfl⟩ := hu
  rfl
def InRow (zs : List Int) (len : Nat) (w : World) (v i : Value) (wr : World) : Prop := ∃ k : Nat, k ≤ len ∧ i = .int .i64 k ∧ wr.ownsRow w.heap.size 29 1 v k (flVals zs k) ∧ Below w.heap.size w wr
theorem info29 : (Try.prog.info? 29).map (fun i => (i.zero, i.size, i.bytes)) = some (some (.float .f64 0), 1, 8) := by kernel_rfl
theorem conv30 (n : Int) (w : World) : (convert 30 29 (.int .i16 n)).run Try.prog w = .ok (.float .f64 (floatOfInt .f64 n)) w := run_convert_int_float w 30 29 .i16 .f64 n (by rw [Try.underlying30]; rfl) Try.underlying29
theorem own_ne {w : World} {base e size n b : Nat} {v : Value} {xs : List Value} (h : w.ownsRow base e size v n xs) (hb : b < base) : v.ownBlock ≠ some b := by
  rcases h.2 with ⟨rfl, _⟩ | ⟨g, cap, cur, rfl, hg, _⟩
  · simp [Value.ownBlock]
  · simp [Value.ownBlock]; omega
theorem own_ge {w : World} {base e size n b : Nat} {v : Value} {xs : List Value} (h : w.ownsRow base e size v n xs) (hb : v.ownBlock = some b) : base ≤ b := by
  rcases h.2 with ⟨rfl, _⟩ | ⟨g, cap, cur, rfl, hg, _⟩
  · simp [Value.ownBlock] at hb
  · simp [Value.ownBlock] at hb; omega
theorem own_lt {w : World} {base e size n g cp : Nat} {xs : List Value} (h : w.ownsRow base e size (.slice (some ⟨g, 0, none⟩) n cp) n xs) : g < w.heap.size := by
  rcases h.2 with ⟨h1, _⟩ | ⟨g', cap, cur, h1, hg, hh, _⟩
  · cases h1
  · cases h1; exact (Array.getElem?_eq_some_iff.1 hh).1
theorem own_news {w : World} {base e n g cp : Nat} {xs : List Value} (h : w.ownsRow base e 1 (.slice (some ⟨g, 0, none⟩) n cp) n xs) : ∀ j u, xs[j]? = some u → w.cell? (Addr.add ⟨g, 0, none⟩ j) = some u := by
  intro j u hj
  have hlt : j < n := by have h1 := (List.getElem?_eq_some_iff.1 hj).1; have h2 := h.1; omega
  have := h.cellAt j (by omega)
  rw [← hj, ← this]
  unfold Addr.add
  split
  · rename_i h0; rw [h0]
  · simp
theorem news_later {w w' : World} {g : Nat} {xs : List Value} (h : ∀ j u, xs[j]? = some u → w.cell? (Addr.add ⟨g, 0, none⟩ j) = some u) (hb : Below w.heap.size w w') : ∀ j u, xs[j]? = some u → w'.cell? (Addr.add ⟨g, 0, none⟩ j) = some u := by
  intro j u hj
  have h1 := h j u hj
  rw [← h1]
  exact hb.cell (cell_lt h1)
theorem below2 {w w2 : World} {o : Obj} {n c : Nat} (hg : (w.alloc o).grownBy w2 (Value.slice (some ⟨w.heap.size, 0, none⟩) n c).ownBlock) : Below w.heap.size w w2 :=
  ((Below.refl _ _).alloc (Nat.le_refl _) _).grown hg (by simp) (fun j hj => by simp [Value.ownBlock] at hj; omega)
theorem own_lit4 (w : World) : (w.alloc (.cells #[.float .f64 0, .float .f64 0, .float .f64 0, .float .f64 0] 29)).ownsRow w.heap.size 29 1 (.slice (some ⟨w.heap.size, 0, none⟩) 4 4) 4 [.float .f64 0, .float .f64 0, .float .f64 0, .float .f64 0] :=
  ⟨rfl, .inr ⟨w.heap.size, 4, _, rfl, Nat.le_refl _, heap_alloc_new w _, Nat.le_refl _, by unfold maxLen; omega, rfl, rfl⟩⟩
theorem own_lit1 (w : World) : (w.alloc (.cells #[.float .f64 0] 29)).ownsRow w.heap.size 29 1 (.slice (some ⟨w.heap.size, 0, none⟩) 1 1) 1 [.float .f64 0] :=
  ⟨rfl, .inr ⟨w.heap.size, 1, _, rfl, Nat.le_refl _, heap_alloc_new w _, Nat.le_refl _, by unfold maxLen; omega, rfl, rfl⟩⟩
def flList (zs : List Int) (k : Nat) : List Nat := (List.range k).map (fl zs)
theorem flList_ok (zs : List Int) (k : Nat) (hz : ∀ i, -32768 ≤ zs.getD i 0 ∧ zs.getD i 0 ≤ 32767) (i : Nat) : isNum (Ieee.double.read ((flList zs k).getD i 0)) ∧ (flList zs k).getD i 0 < 2 ^ 64 := by
  by_cases hi : i < k
  · have e : (flList zs k).getD i 0 = fl zs i := by simp [flList, List.getD, hi]
    rw [e]
    exact ⟨small_num _ _ (by have := hz i; omega), Ieee.double.nearest_lt _ _ _⟩
  · have e : (flList zs k).getD i 0 = 0 := by simp [flList, List.getD, hi]
    rw [e]
    exact ⟨zero_num, Nat.two_pow_pos 64⟩
theorem FloatsAt.later {w w' : World} {a : Option Addr} {n : Nat} {zs : List Nat} (h : FloatsAt w a n zs) (hb : Below w.heap.size w w') : FloatsAt w' a n zs := fun i hi => by
  obtain ⟨b, off, h1, h2, h3⟩ := h i hi
  exact ⟨b, off, h1, Nat.lt_of_lt_of_le h2 hb.size, by rw [← h3]; exact hb.cell h2⟩
theorem FloatsAt.sums {w : World} {a : Option Addr} {n : Nat} {zs : List Nat} (h : FloatsAt w a n zs) : ∀ i, i < n → ∃ b off, a = some ⟨b, off, none⟩ ∧ w.cell? ⟨b, off + i, none⟩ = some (.float .f64 (zs.getD i 0)) := fun i hi => by
  obtain ⟨b, off, h1, h2, h3⟩ := h i hi
  exact ⟨b, off, h1, h3⟩
theorem own_floats {w : World} {base n : Nat} {v : Value} {xs : List Nat} (h : w.ownsRow base 29 1 v n (xs.map (Value.float .f64))) : ∃ a cap, v = .slice a n cap ∧ FloatsAt w a n xs := by
  have hl : xs.length = n := by have := h.1; simp at this; omega
  rcases h.2 with ⟨rfl, rfl⟩ | ⟨g, cap, cur, rfl, _⟩
  · exact ⟨none, 0, rfl, fun i hi => absurd hi (by omega)⟩
  · refine ⟨_, cap, rfl, fun i hi => ⟨g, 0, rfl, own_lt h, ?_⟩⟩
    have := h.cellAt i (by omega)
    rw [Nat.zero_add, this]
    simp [List.getD, hl, hi]
theorem run_ceq (P : Program) (t : TypeId) {a b c d : Nat} (h1 : Ieee.double.order a c = some .eq) (h2 : Ieee.double.order b d = some .eq) : ∀ w, (binOp .eql t (.complex .f64 a b) (.complex .f64 c d)).run P w = .ok (.bool true) w := by
  intro w
  have g1 : FloatKind.f64.format.order a c = some .eq := h1
  have g2 : FloatKind.f64.format.order b d = some .eq := h2
  simp [binOp, Op.complexOp, Op.Complex.cmp, Op.floatCmp, g1, g2, asBool]
theorem own_lit1' (w : World) (o : Obj) : ((w.alloc o).alloc (.cells #[.float .f64 0] 29)).ownsRow (w.heap.size + 1) 29 1 (.slice (some ⟨w.heap.size + 1, 0, none⟩) 1 1) 1 [.float .f64 0] := by
  have := own_lit1 (w.alloc o)
  simpa using this
theorem waveShifts_walk (H : Type) (enc : TypeId × Value → H) (W : World) (base : Nat) (v0 : Value) (d0 : DataW H) (p0 : List MemPlace) (h0 : DataW.Trod enc Try.prog W 0 (fun _ => true) true 28 v0 d0 p0) (o0 : Value.okWide Try.prog W .any base 28 v0) (hk : Rows.uptoSmall H [d0] = true) :
    Calls Try.prog 4 #[v0] W fun e w' => e = .returned (.bool true) ∧ Below W.heap.size W w' := by
  obtain ⟨a, len, cap, zs, rfl, hlen, hat, hz⟩ := shorts_open h0 o0 hk
  obtain ⟨i0, hi, hz0, hz1, hz2⟩ := info_parts info29
  have HI := Lib.hid hi
  have HZ0 := Lib.hid hz0
  have HZ1 := Lib.hid hz1
  have HZ2 := Lib.hid hz2
  clear hi hz0 hz1 hz2
  have HAT := Lib.hid hat
  have HZ := Lib.hid hz
  clear h0 o0 hk hat hz
  go_enter Try.func4, Try.ntmps4
  go_wp2_with fail
  refine (awake _).mono ?_
  rintro e w1 ⟨rfl, hb⟩
  have HB := Lib.hid hb
  clear hb
  go_wp2_with fail
  go_loopw [3, 12] (fun v i wr => InRow zs len w1 v i wr) (fun _ i _ => len - (intOf i).toNat)
  case atStart => exact ⟨0, Nat.zero_le _, rfl, World.ownsRow_nil _ _ _ _, Below.refl _ _⟩
  case round =>
    obtain ⟨k, hk, rfl, hown, hb⟩ := hrel
    have HO := Lib.hid hown
    have HX := Lib.hid hb
    clear hown hb
    by_cases hlt : k < len
    · obtain ⟨b, off, rfl, hbw, hc⟩ := HAT.out k hlt
      have hc1 : wr.cell? ⟨b, off + k, none⟩ = some (.int .i16 (zs.getD k 0)) := by rw [← hc, ← HB.out.cell (p := ⟨b, off + k, none⟩) hbw]; exact HX.out.cell (Nat.lt_of_lt_of_le hbw HB.out.size)
      clear hc
      obtain ⟨z, hzk⟩ : ∃ z, zs.getD k 0 = z := ⟨_, rfl⟩
      rw [hzk] at hc1
      have HZK := Lib.hid hzk
      clear hzk
      have hcv := conv30 z
      go_wp2_with (at_builtin; refine wpList_append_own _ rfl (.tmp 15) (.tmp 21) 22 rfl w1.heap.size 29 i0 _ 1 8 Try.underlying22 HI.out HZ0.out HZ1.out HZ2.out rfl (by omega) _ k _ rfl (HO.out.alloc _) ⟨wr.heap.size, 0, none⟩ 1 1 [.float .f64 (floatOfInt .f64 z)] rfl rfl (World.news_of_block (cs := #[.float .f64 (floatOfInt .f64 z)]) (t := 29) (fr := (0, 0)) (heap_alloc_new wr _)) (by simp [Value.oneCell']) (by unfold maxLen; omega) (by omega) (by have := HX.out.size; simp; omega) ?_; intro v1 w2 hown1 hgrow1 hnn; clear hnn)
      have HO1 := Lib.hid hown1
      have HG := Lib.hid hgrow1
      clear hown1 hgrow1
      refine ⟨⟨k + 1, hlt, by go_num, by rw [flVals_succ]; unfold fl; rw [HZK.out]; exact HO1.out, (HX.out.alloc HX.out.size _).grown HG.out (by have := HX.out.size; simp; omega) (fun j hj => own_ge HO.out hj)⟩, ?_⟩
      simp [intOf]; omega
    · have hke : k = len := by omega
      subst hke
      clear hlt hk
      have hrow : (∃ g cp, u3 = .slice (some ⟨g, 0, none⟩) k cp) ∨ (u3 = .slice none 0 0 ∧ k = 0) := by
        rcases HO.out.2 with ⟨rfl, h⟩ | ⟨g, cp, cur, rfl, _⟩
        · exact .inr ⟨rfl, h⟩
        · exact .inl ⟨g, cp, rfl⟩
      rcases hrow with ⟨g, cp, rfl⟩ | ⟨rfl, rfl⟩
      · have hg : g < wr.heap.size := own_lt HO.out
        have HN := Lib.hid (own_news HO.out)
        go_wp2_with (first
          | (at_builtin; (refine wpList_append_own _ rfl (.tmp 24) (.tmp 25) 22 rfl wr.heap.size 29 i0 _ 1 8 Try.underlying22 HI.out HZ0.out HZ1.out HZ2.out rfl (by omega) _ 4 _ rfl (own_lit4 wr) ⟨g, 0, none⟩ k cp (flVals zs k) rfl (by rw [flVals_len]; omega) (news_later HN.out ((Below.refl _ _).alloc (Nat.le_refl _) _)) (flVals_one _ _) (by unfold maxLen; omega) (by omega) (by simp) ?_); intro v1 w2 hown1 hgrow1 hnn; clear hnn)
          | (at_builtin; go_must (refine wpList_append_own _ rfl (.tmp 27) (.tmp 28) 22 rfl w2.heap.size 29 i0 _ 1 8 Try.underlying22 HI.out HZ0.out HZ1.out HZ2.out rfl (by omega) _ 1 _ rfl (own_lit1 w2) ⟨g, 0, none⟩ k cp (flVals zs k) rfl (by rw [flVals_len]; omega) (news_later HN.out ((below2 hgrow1).alloc (below2 hgrow1).size _)) (flVals_one _ _) (by unfold maxLen; omega) (by omega) (by simp) ?_); intro v2 w3 hown2 hgrow2 hnn; clear hnn)
          | fail)
        have HB3 := Lib.hid (And.intro (below2 hgrow1) (below2 hgrow2))
        obtain ⟨a4, cp4, rfl, at4⟩ := own_floats (xs := 0 :: 0 :: 0 :: 0 :: flList zs k) (n := 4 + k) (by rw [show (0 :: 0 :: 0 :: 0 :: flList zs k).map (Value.float .f64) = [Value.float .f64 0, Value.float .f64 0, Value.float .f64 0, Value.float .f64 0] ++ flVals zs k from by simp [flVals, flList]]; exact hown1)
        obtain ⟨a1, cp1, rfl, at1⟩ := own_floats (xs := 0 :: flList zs k) (n := 1 + k) (by rw [show (0 :: flList zs k).map (Value.float .f64) = [Value.float .f64 0] ++ flVals zs k from by simp [flVals, flList]]; exact hown2)
        have at4' := at4.later HB3.out.2
        obtain ⟨ar, cpr, har, at0⟩ := own_floats (xs := flList zs k) (n := k) (by rw [show (flList zs k).map (Value.float .f64) = flVals zs k from by simp [flVals, flList]]; exact HO.out)
        cases har
        have at0' := (at0.later HB3.out.1).later HB3.out.2
        have A4 := Lib.hid at4'
        have A1 := Lib.hid at1
        have A0 := Lib.hid at0'
        clear at4 at4' at1 at0 at0' hown1 hown2 hgrow1 hgrow2
        refine (wsum _ k _ (flList zs k) w3 (by omega) A0.out.sums).mono ?_
        rintro e w4 ⟨ra, rb, rfl, hs0, n0, rfl⟩
        have S0 := Lib.hid hs0
        clear hs0
        go_wp2_with fail
        refine (wsum _ _ _ (0 :: 0 :: 0 :: 0 :: flList zs k) (w3.drewN n0) (by omega) A4.out.sums).mono ?_
        rintro e w4 ⟨fa, fb, rfl, hs4, n4, rfl⟩
        have S4 := Lib.hid hs4
        clear hs4
        have e1 := four_eq (flList_ok zs k HZ.out) S0.out (by rw [Nat.add_comm]; exact S4.out)
        have c1 := run_ceq Try.prog 25 e1.1 e1.2
        clear e1
        go_wp2_with fail
        refine (wsum _ _ _ (0 :: flList zs k) (w3.drewN (n0 + n4)) (by omega) A1.out.sums).mono ?_
        rintro e w4 ⟨oa, ob, rfl, hs1, n1, rfl⟩
        have S1 := Lib.hid hs1
        clear hs1
        have e2 := (shifts_math (flList_ok zs k HZ.out) S0.out (by rw [Nat.add_comm]; exact S4.out) (by rw [Nat.add_comm]; exact S1.out)).2
        have c2 := run_ceq Try.prog 25 e2.1 e2.2
        clear e2
        go_wp2_with fail
        refine (spin1 ra rb _).mono ?_
        rintro e w5 ⟨rfl, rfl⟩
        go_wp2_with fail
        go_ret
        exact ⟨rfl, below_drewN ((HB.out.trans (HX.out.mono HB.out.size)).trans ((HB3.out.1.mono (Nat.le_trans HB.out.size HX.out.size)).trans (HB3.out.2.mono (Nat.le_trans HB.out.size (Nat.le_trans HX.out.size HB3.out.1.size))))) _⟩
      · have hsz : (0 : Nat) = 0 := rfl
        clear hsz
        go_wp2_with (first
          | (at_builtin; (refine wpList_append_own_none rfl (.tmp 24) (.tmp 25) 22 rfl wr.heap.size 29 i0 1 Try.underlying22 HI.out _ 4 _ rfl (own_lit4 wr) rfl ?_))
          | (at_builtin; go_must (refine wpList_append_own_none rfl (.tmp 27) (.tmp 28) 22 rfl (wr.heap.size + 1) 29 i0 1 Try.underlying22 HI.out _ 1 _ rfl (own_lit1' _ _) rfl ?_))
          | fail)
        have hb4 : Below wr.heap.size wr (wr.alloc (.cells #[.float .f64 0, .float .f64 0, .float .f64 0, .float .f64 0] 29)) := (Below.refl _ _).alloc (Nat.le_refl _) _
        have at4 : FloatsAt (wr.alloc (.cells #[.float .f64 0, .float .f64 0, .float .f64 0, .float .f64 0] 29)) (some ⟨wr.heap.size, 0, none⟩) 4 (0 :: 0 :: 0 :: 0 :: flList zs 0) := by
          obtain ⟨a4, cp4, h4, at4⟩ := own_floats (xs := 0 :: 0 :: 0 :: 0 :: flList zs 0) (n := 4) (own_lit4 wr)
          cases h4; exact at4
        have at1 : FloatsAt ((wr.alloc (.cells #[.float .f64 0, .float .f64 0, .float .f64 0, .float .f64 0] 29)).alloc (.cells #[.float .f64 0] 29)) (some ⟨wr.heap.size + 1, 0, none⟩) 1 (0 :: flList zs 0) := by
          obtain ⟨a4, cp4, h4, at4⟩ := own_floats (xs := 0 :: flList zs 0) (n := 1) (own_lit1' wr (.cells #[.float .f64 0, .float .f64 0, .float .f64 0, .float .f64 0] 29))
          cases h4; exact at4
        have at4' := at4.later ((Below.refl _ _).alloc (Nat.le_refl _) (.cells #[.float .f64 0] 29))
        have A4 := Lib.hid at4'
        have A1 := Lib.hid at1
        clear at4 at4' at1 hb4
        refine (wsum none 0 0 (flList zs 0) _ (by omega) (fun i hi => absurd hi (by omega))).mono ?_
        rintro e w4 ⟨ra, rb, rfl, hs0, n0, rfl⟩
        have S0 := Lib.hid hs0
        clear hs0
        go_wp2_with fail
        refine (wsum _ _ _ (0 :: 0 :: 0 :: 0 :: flList zs 0) _ (by omega) (by exact A4.out.sums)).mono ?_
        rintro e w4 ⟨fa, fb, rfl, hs4, n4, rfl⟩
        have S4 := Lib.hid hs4
        clear hs4
        have e1 := four_eq (flList_ok zs 0 HZ.out) S0.out S4.out
        have c1 := run_ceq Try.prog 25 e1.1 e1.2
        clear e1
        go_wp2_with fail
        refine (wsum _ _ _ (0 :: flList zs 0) _ (by omega) (by exact A1.out.sums)).mono ?_
        rintro e w4 ⟨oa, ob, rfl, hs1, n1, rfl⟩
        have S1 := Lib.hid hs1
        clear hs1
        have e2 := (shifts_math (flList_ok zs 0 HZ.out) S0.out S4.out S1.out).2
        have c2 := run_ceq Try.prog 25 e2.1 e2.2
        clear e2
        go_wp2_with fail
        refine (spin1 ra rb _).mono ?_
        rintro e w5 ⟨rfl, rfl⟩
        go_wp2_with fail
        go_ret
        exact ⟨rfl, below_drewN ((((HB.out.trans (HX.out.mono HB.out.size))).alloc (Nat.le_trans HB.out.size HX.out.size) _).alloc (by simp; exact Nat.le_trans (Nat.le_trans HB.out.size HX.out.size) (Nat.le_succ _)) _) _⟩
end Go.Proofs.Ytogiollmghnoaaa
