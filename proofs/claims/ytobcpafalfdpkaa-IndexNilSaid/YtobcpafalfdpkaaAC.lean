/- SetKind and Forget. Condition: the bounds. -/
import Derived.Test.YtobcpafalfdpkaaAB
namespace Go.Proofs.Ytobcpafalfdpkaa
open Go.RowKit Go.WideMaps Go.Sort
def skE (old : Option Int) (k : Int) : Int := if k < 1 ∨ 4 < k then 1 else match old with | some o => if o = k then 0 else 5 | none => 0
def skD (Z : List (BA × Int)) (f : BA) (k : Int) : List (BA × Int) := if skE (get Z f) k = 0 then put Z f k else Z
/-- The same, but for the kinds. -/
structure SameTags (μ μ' : Me) : Prop where
  ss : μ'.ss = μ.ss
  A : μ'.A = μ.A
  V : μ'.V = μ.V
  X : μ'.X = μ.X
def SetPost (w : World) (ρ : Nat → Option Role) (x m : Nat) (L : List (BA × Nat)) (M : BA → Me) (nm f : BA) (k : Int) (e : Ending) (w' : World) : Prop :=
  ∃ ρ' L' M', e = .returned (.int .i64 (skE (get (meOf L M nm).kd f) k)) ∧ Chg w w' ρ ρ' x m L M L' M' nm ∧ SameTags (meOf L M nm) (meOf L' M' nm) ∧ (meOf L' M' nm).kd = skD (meOf L M nm).kd f k
theorem setKind24nil (nm f : BA) (k : Int) (w : World) : Calls Try.prog 24 #[.pointer none, .string nm, .string f, .int .i64 k] w fun e w' => e = .returned (.int .i64 1) ∧ w = w' := by
  go_enter Try.func24, Try.ntmps24
  go_wp2_with fail
  go_ret
  exact ⟨rfl, rfl⟩
theorem meOf_get {L : List (BA × Nat)} {M : BA → Me} {nm : BA} {b : Nat} (h : get L nm = some b) : meOf L M nm = M nm := by unfold meOf; rw [h]
theorem Chg.refl {w : World} {ρ : Nat → Option Role} {x m : Nat} {L : List (BA × Nat)} {M : BA → Me} (h : IdxAt w ρ x m L M) (nm : BA) : Chg w w ρ ρ x m L M L M nm := ⟨h, Step.refl h.dom, fun _ _ => rfl, Nat.le_succ _⟩
theorem Chg.below {w w' : World} {ρ : Nat → Option Role} {x m : Nat} {L : List (BA × Nat)} {M : BA → Me} (h : IdxAt w ρ x m L M) (nm : BA) (hb : Below w.heap.size w w') : Chg w w' ρ ρ x m L M L M nm := ⟨h.below hb, Step.below h.dom hb, fun _ _ => rfl, Nat.le_succ _⟩
/-- One name's, turned once more. -/
theorem Chg.next {w w1 w2 : World} {ρ ρ1 ρ2 : Nat → Option Role} {x m b : Nat} {L L1 : List (BA × Nat)} {M M1 : BA → Me} {nm : BA} {μ : Me} (h : Chg w w1 ρ ρ1 x m L M L1 M1 nm) (hb : get L1 nm = some b) (hm : MeasAt w2 ρ2 nm b μ) (hs : Step w1 w2 ρ1 ρ2 (Role.of nm)) : Chg w w2 ρ ρ2 x m L M L1 (updF M1 nm μ) nm ∧ meOf L1 (updF M1 nm μ) nm = μ := by
  refine ⟨⟨h.idx.close hb hm hs, h.step.trans (hs.more fun r hr => .inr hr), fun nm' hne => ?_, h.len⟩, by rw [meOf_get hb, updF_same]⟩
  rw [← h.other nm' hne]
  unfold meOf
  rw [updF_other hne]
set_option maxRecDepth 100000 in
theorem setKind24 {w : World} {ρ : Nat → Option Role} {x m : Nat} {L : List (BA × Nat)} {M : BA → Me} (h : IdxAt w ρ x m L M) (nm f : BA) (k : Int) (hn : nm.size ≤ maxLen) (hf : f.size ≤ maxLen) (hL : L.length < maxLen) (hK : (meOf L M nm).kd.length < maxLen) : Calls Try.prog 24 #[.pointer (some ⟨x, 0, none⟩), .string nm, .string f, .int .i64 k] w (SetPost w ρ x m L M nm f k) := by
  have HH := Lib.hid h
  have HK := Lib.hid hK
  by_cases h1 : k < 1
  · have HE := Lib.hid (show skE (get (meOf L M nm).kd f) k = 1 by unfold skE; rw [if_pos (.inl h1)])
    clear h hK
    go_enter Try.func24, Try.ntmps24
    go_wp2_with fail
    go_ret
    exact ⟨ρ, L, M, by rw [HE.out]; rfl, Chg.refl HH.out nm, ⟨rfl, rfl, rfl, rfl⟩, by unfold skD; rw [HE.out, if_neg (by decide)]⟩
  · by_cases h2 : 4 < k
    · have HE := Lib.hid (show skE (get (meOf L M nm).kd f) k = 1 by unfold skE; rw [if_pos (.inr h2)])
      clear h hK
      go_enter Try.func24, Try.ntmps24
      go_wp2_with fail
      go_ret
      exact ⟨ρ, L, M, by rw [HE.out]; rfl, Chg.refl HH.out nm, ⟨rfl, rfl, rfl, rfl⟩, by unfold skD; rw [HE.out, if_neg (by decide)]⟩
    · have H12 := Lib.hid (show ¬ (k < 1 ∨ 4 < k) by omega)
      have HMK := Lib.hid (make29 h nm hn hL)
      clear h hK
      go_enter Try.func24, Try.ntmps24
      go_wp2_with fail
      refine HMK.out.mono ?_
      intro e w1 hp
      unfold MadePost at hp
      obtain ⟨b, ρ1, L1, M1, he, hch, hgb, hsame, _⟩ := hp
      subst he
      have hme := hch.idx.meas _ (get_some hgb)
      simp only at hme
      have hblk := hme.blk
      have c2 : w1.cell? ⟨b, 2, none⟩ = some (.map (some (M1 nm).km)) := by simp [World.cell?, hblk]
      have hlk := look70 (a := some (M1 nm).km) hme.kin f hf
      rw [hsame.kd] at hlk
      obtain ⟨w2, hrun, hm2, hg2⟩ := hme.kin.store Try.underlying70 f hf k (by rw [hsame.kd]; exact HK.out)
      have hrun' : (Instr.mapUpdate 70 (.map (some (M1 nm).km)) (.string f) (.int .i64 k)).run Try.prog w1 = .ok () w2 := hrun
      have hme2 := hme.turnKin (TurnAt.of_grown hg2 hme.rk fun _ _ => rfl) hm2
      obtain ⟨hch2, hmo2⟩ := hch.next hgb hme2 (Step.of_grown hg2 hme.rk rfl hch.idx.dom)
      have HCH := Lib.hid hch
      have HCH2 := Lib.hid hch2
      have HMO2 := Lib.hid hmo2
      have HSM := Lib.hid hsame
      have HGB := Lib.hid hgb
      have hskp : ∀ z, skE (get (meOf L M nm).kd f) k = z → skE (get (meOf L M nm).kd f) k = z := fun _ h => h
      clear hch hgb hme hblk hrun hm2 hg2 hme2 hch2 hmo2 hskp
      cases hgk : get (meOf L M nm).kd f with
      | none =>
        have HE := Lib.hid (show skE (get (meOf L M nm).kd f) k = 0 by unfold skE; rw [if_neg H12.out, hgk])
        rw [hgk] at hlk
        simp only [Option.getD_none, Option.isSome_none] at hlk
        clear hgk hsame
        go_wp2_with fail
        go_ret
        refine ⟨ρ1, L1, _, by rw [HE.out]; rfl, HCH2.out, ?_, ?_⟩
        · rw [HMO2.out]
          exact ⟨HSM.out.ss, HSM.out.A, HSM.out.V, HSM.out.X⟩
        · rw [HMO2.out]
          unfold skD
          rw [HE.out, if_pos rfl]
          show put (M1 nm).kd f k = _
          rw [HSM.out.kd]
      | some o =>
        rw [hgk] at hlk
        simp only [Option.getD_some, Option.isSome_some] at hlk
        cases hok : (o != k) with
        | true =>
          have HE := Lib.hid (show skE (get (meOf L M nm).kd f) k = 5 by
            unfold skE
            rw [if_neg H12.out, hgk]
            simp only
            rw [if_neg (by simpa using hok)])
          clear hgk hsame
          go_wp2_with fail
          go_ret
          refine ⟨ρ1, L1, M1, by rw [HE.out]; rfl, HCH.out, ?_, ?_⟩
          · rw [meOf_get HGB.out]
            exact ⟨HSM.out.ss, HSM.out.A, HSM.out.V, HSM.out.X⟩
          · rw [meOf_get HGB.out, HSM.out.kd]
            unfold skD
            rw [HE.out, if_neg (by decide)]
        | false =>
          have HE := Lib.hid (show skE (get (meOf L M nm).kd f) k = 0 by
            unfold skE
            rw [if_neg H12.out, hgk]
            simp only
            rw [if_pos (by simpa using hok)])
          clear hgk hsame
          go_wp2_with fail
          go_ret
          refine ⟨ρ1, L1, _, by rw [HE.out]; rfl, HCH2.out, ?_, ?_⟩
          · rw [HMO2.out]
            exact ⟨HSM.out.ss, HSM.out.A, HSM.out.V, HSM.out.X⟩
          · rw [HMO2.out]
            unfold skD
            rw [HE.out, if_pos rfl]
            show put (M1 nm).kd f k = _
            rw [HSM.out.kd]
theorem forget26nil (nm : BA) (hn : nm.size ≤ maxLen) (w : World) : Calls Try.prog 26 #[.pointer none, .string nm] w fun e w' => e = .returned (.int .i64 0) ∧ Below w.heap.size w w' := by
  have HG := Lib.hid (get32nil nm w)
  go_enter Try.func26, Try.ntmps26
  go_wp2_with fail
  refine HG.out.mono ?_
  rintro e w1 ⟨g, a, b, c, rfl, hv, hb⟩
  have hblk := hv.blk
  have c2 : w1.cell? ⟨g, 0, none⟩ = some (.map a) := by simp [World.cell?, hblk]
  have hln := hv.ser.len Try.underlying68
  have HB := Lib.hid hb
  clear hblk hv hb
  go_wp2_with fail
  go_ret
  exact ⟨rfl, HB.out⟩
def ForgetPost (w : World) (ρ : Nat → Option Role) (x m : Nat) (L : List (BA × Nat)) (M : BA → Me) (nm : BA) (e : Ending) (w' : World) : Prop :=
  e = .returned (.int .i64 (meOf L M nm).ss.length) ∧ Chg w w' ρ ρ x m L M (del L nm) M nm
set_option maxRecDepth 100000 in
theorem forget26 {w : World} {ρ : Nat → Option Role} {x m : Nat} {L : List (BA × Nat)} {M : BA → Me} (h : IdxAt w ρ x m L M) (nm : BA) (hn : nm.size ≤ maxLen) (hK : (meOf L M nm).ss.length < maxLen) : Calls Try.prog 26 #[.pointer (some ⟨x, 0, none⟩), .string nm] w (ForgetPost w ρ x m L M nm) := by
  have HG := Lib.hid (get32 h nm hn)
  have HH := Lib.hid h
  unfold maxLen at hK
  clear h
  go_enter Try.func26, Try.ntmps26
  go_wp2_with fail
  refine HG.out.mono ?_
  rintro e w1 ⟨g, a, b, c, rfl, hv, hb⟩
  have hblk := hv.blk
  have c2 : w1.cell? ⟨g, 0, none⟩ = some (.map a) := by simp [World.cell?, hblk]
  have hln := hv.ser.len Try.underlying68
  have hh1 := HH.out.below hb
  have hxb := hh1.blk
  have d0 : w1.cell? ⟨x, 0, none⟩ = some (.map (some m)) := by simp [World.cell?, hxb]
  obtain ⟨w2, hrun, hm2, hg2⟩ := hh1.out.drop Try.underlying60 nm hn 0
  have hchg : Chg w w2 ρ ρ x m L M (del L nm) M nm := by
    have hs1 : Step w w1 ρ ρ fun r => r = .outer ∨ r.of nm := Step.below HH.out.dom hb
    have hs2 : Step w1 w2 ρ ρ fun r => r = .outer ∨ r.of nm := Step.of_grown hg2 hh1.rm (.inl rfl) hh1.dom
    have hxm : x ≠ m := fun e => by have := hh1.rx; rw [e, hh1.rm] at this; cases this
    have hk : ∀ k, k < w1.heap.size → k ≠ m → w2.heap[k]? = w1.heap[k]? := fun k hk hne => hg2.block k hk fun e => hne (Option.some.inj e)
    refine ⟨⟨(hk _ (heap_lt hxb) hxm).trans hxb, hh1.rx, hh1.rm, hm2, fun p hp => (hh1.meas p (del_mem.1 hp).1).same hg2.size (fun _ _ => rfl) fun k hk' hr => hk k hk' fun e => ?_, hs2.dom⟩, hs1.trans hs2, fun nm' hne => ?_, ?_⟩
    · have := hr .outer (by rw [e]; exact hh1.rm)
      exact this
    · unfold meOf
      rw [get_del, if_neg (Ne.symm hne)]
    · exact Nat.le_succ_of_le (List.length_filter_le ..)
  have HC := Lib.hid hchg
  clear hblk hv hb hh1 hxb hm2 hg2 hchg
  have hrun' : ∀ ty, (Builtin.delete_ #[60, 9] ty #[.map (some m), .string nm]).run Try.prog w1 = .ok (.tuple #[]) w2 := fun ty => hrun
  clear hrun
  go_wp2_with fail
  go_ret
  exact ⟨rfl, HC.out⟩
end Go.Proofs.Ytobcpafalfdpkaa
