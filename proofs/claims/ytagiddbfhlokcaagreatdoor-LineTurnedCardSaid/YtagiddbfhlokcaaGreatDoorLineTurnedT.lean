/- The card 'LineTurnedCardSaid' of gristlaw: for every input that can be read the law returns true and leaves what it read as it was; the variables that it lists are as the program's text lays them. Conditions: none beside the row's own. The frame was written by a program of the prover's own after the guide's worked texts. -/
import Derived.Test.YtagiddbfhlokcaaGreatDoorTBK
import Derived.Test.YtagiddbfhlokcaaGreatDoorTBI
import Derived.Test.YtagiddbfhlokcaaGreatDoorCards
import Derived.Test.YtagiddbfhlokcaaGreatDoorTie
import Derived.WalkKit
import Derived.ProofKit
import Derived.OpenShut
import Derived.ShutString
import Derived.ChangeOld
import Derived.Below
import Derived.SevenTiedAt
import Derived.ChangeMaps5
import Derived.SizedLaws
import Derived.Deep.DeepHandedRow
namespace Go.Proofs.YtagiddbfhlokcaaGreatDoor.lineTurnedDone
open Go.ChangeShapes Go.WideShapes Go.ChangeAt Go.RowKit Go.ChangeMaps
set_option linter.unusedVariables false

theorem own : ownKnob Tryz.prog.godebug = none := by kernel_rfl
theorem laidOut : laidOutB Tryz.prog = true := by kernel_rfl

set_option maxRecDepth 100000 in
theorem lineTurned_walk (H : Type) (enc : TypeId × Value → H) (W : World) (base : Nat) (v0 v1 v2 v3 : Value) (d0 d1 d2 d3 : DataW H) (p0 p1 p2 p3 : List MemPlace) (h0 : DataW.Trod enc Tryz.prog W 0 (fun _ => true) true 27 v0 d0 p0) (o0 : Value.okWide Tryz.prog W .any base 27 v0) (h1 : DataW.Trod enc Tryz.prog W 0 (fun _ => true) true 3 v1 d1 p1) (o1 : Value.okWide Tryz.prog W .any base 3 v1) (h2 : DataW.Trod enc Tryz.prog W 0 (fun _ => true) true 5 v2 d2 p2) (o2 : Value.okWide Tryz.prog W .any base 5 v2) (h3 : DataW.Trod enc Tryz.prog W 0 (fun _ => true) true 3 v3 d3 p3) (o3 : Value.okWide Tryz.prog W .any base 3 v3) (hL : laidMetH Tryz.prog Laid.lst W) :
    Calls Tryz.prog 8 #[v0, v1, v2, v3] W fun e w' => e = .returned (.bool true) ∧ Below W.heap.size W w' := by
  obtain ⟨name, a, fa, n, cap, fcap, tm, kf, vf, L, rfl, htm, hn, hl, hname, hks, hfs, ht, hf⟩ := Ser.row_open h0 o0
  obtain ⟨x1, rfl, rfl, rfl, w1⟩ := open_int Tryz.underlying3 o1 h1
  obtain ⟨x2, rfl, rfl, rfl, w2⟩ := open_int Tryz.underlying5 o2 h2
  obtain ⟨x3, rfl, rfl, rfl, w3⟩ := open_int Tryz.underlying3 o3 h3
  exact Ser.law8 name a fa n cap fcap tm htm.1 htm.2 kf vf L W hn hl hname hks hfs ht hf x1 x3 x2 (lst_met hL)

set_option maxRecDepth 100000 in
theorem contract (H : Type) (enc : TypeId × Value → H) (W : World) (base : Nat) (args : Array Value) (ds gs : List (DataW H)) (before : List MemPlace)
    (hval0 : ∀ (j : Nat) t v, Tryz.f8.params[j]? = some t → args[j]? = some v → Value.okWide Tryz.prog W .any base t v)
    (hW : DataW.Whole enc Tryz.prog Tryz.f8.params.toList Rows.lineTurnedSpec.vars false W args.toList ds gs before) (hL : laidMetH Tryz.prog Laid.lst W) :
    Calls Tryz.prog 8 args W fun e W' => ∃ v, e = .returned v ∧ Rows.lineTurnedSpec.post enc Tryz.prog Tryz.f8 false true false false W args v W' := by
  have hval : ∀ (j : Nat) t v, Tryz.f8.params[j]? = some t → args[j]? = some v → Value.okWide Tryz.prog W .any base t v := hval0
  have hW' := hW
  obtain ⟨p, q, hA0, hV, rfl, hfz, hnd⟩ := hW
  have hA : DataW.TrodAll enc Tryz.prog W 0 (fun _ => true) true Tryz.f8.params.toList args.toList ds p := hA0
  rw [Tryz.params8] at hA hval
  obtain ⟨v0, vs0, d0, ds0, p0, q0, hargs, rfl, rfl, h0, r0⟩ := trodAll_cons hA
  obtain ⟨v1, vs1, d1, ds1, p1, q1, rfl, rfl, rfl, h1, r1⟩ := trodAll_cons r0
  obtain ⟨v2, vs2, d2, ds2, p2, q2, rfl, rfl, rfl, h2, r2⟩ := trodAll_cons r1
  obtain ⟨v3, vs3, d3, ds3, p3, q3, rfl, rfl, rfl, h3, r3⟩ := trodAll_cons r2
  obtain ⟨rfl, rfl, rfl⟩ := trodAll_nil r3
  obtain rfl : args = #[v0, v1, v2, v3] := by cases args; simp_all
  obtain ⟨rfl, rfl⟩ := trodVars_none hV
  have lt0 : ∀ x ∈ p0, x.block < W.heap.size := by obtain ⟨m, hm⟩ := h0; exact DataW.trod_lt m _ _ _ hm
  have lt1 : ∀ x ∈ p1, x.block < W.heap.size := by obtain ⟨m, hm⟩ := h1; exact DataW.trod_lt m _ _ _ hm
  have lt2 : ∀ x ∈ p2, x.block < W.heap.size := by obtain ⟨m, hm⟩ := h2; exact DataW.trod_lt m _ _ _ hm
  have lt3 : ∀ x ∈ p3, x.block < W.heap.size := by obtain ⟨m, hm⟩ := h3; exact DataW.trod_lt m _ _ _ hm
  clear hA0 hval0
  refine (lineTurned_walk H enc W base v0 v1 v2 v3 d0 d1 d2 d3 p0 p1 p2 p3 h0 (hval 0 27 v0 rfl rfl) h1 (hval 1 3 v1 rfl rfl) h2 (hval 2 5 v2 rfl rfl) h3 (hval 3 3 v3 rfl rfl) hL).mono fun e W' ⟨he, bel⟩ => ?_
  subst he
  exact ⟨_, rfl, _, _, _, [], _, [], hW', trodAll_mk1 (shut_bool Tryz.underlying4 _), (trodAll_cons_mk (Below.trod laidOut (by kernel_rfl) (of_decide_eq_true (by kernel_rfl)) h0 bel lt0) (trodAll_cons_mk (Below.trod laidOut (by kernel_rfl) (of_decide_eq_true (by kernel_rfl)) h1 bel lt1) (trodAll_cons_mk (Below.trod laidOut (by kernel_rfl) (of_decide_eq_true (by kernel_rfl)) h2 bel lt2) (trodAll_cons_mk (Below.trod laidOut (by kernel_rfl) (of_decide_eq_true (by kernel_rfl)) h3 bel lt3) trodAll_mk0)))), rfl, bel.frame _, fun h => by cases h⟩

set_option maxRecDepth 100000 in
theorem lifted (os : Os) (started : os.Started) (H : Type) (enc : TypeId × Value → H) :
    ReturnsInHanded {} Tryz.checked os 8 .any (fun w args => (Rows.lineTurnedSpec.pre enc Tryz.prog Tryz.f8 Rows.lineTurnedRow.domain false w args ∧ laidMetH Tryz.prog Laid.lst w) ∧ sizedMet enc Tryz.prog Tryz.f8 (OpenSpec.ofChange Rows.lineTurnedSpec) false w args)
      (Rows.lineTurnedSpec.post enc Tryz.prog Tryz.f8 false true false false) := by
  refine returnsInHanded_of_change_and (C := Tryz.checked) (X := fun w _ => laidMetH Tryz.prog Laid.lst w) (fun _ _ _ hh h => h.of_heap hh) own started (by kernel_rfl) Tryz.func8
    (ChangeSpec.witness_shaped (enc := enc) (C := Tryz.checked) (os := os) (X := fun w _ => laidMetH Tryz.prog Laid.lst w) false (World.laidAll Tryz.prog os Laid.lst) #[.agg #[.string ⟨#[]⟩, .slice none 0 0, .slice none 0 0, .int .i64 0], .int .i64 0, .int .u8 0, .int .i64 0] 8 (World.laidAll_os _ _ _)
      (Laid.shaped os _) (by kernel_rfl) (by kernel_rfl) (by kernel_rfl) (Laid.met os _)) ?_
  intro W base args ds gs before hval hW _ _ hL _
  exact contract H enc W base args ds gs before hval hW hL

theorem and2 {a b : Bool} (ha : a = true) (hb : b = true) : (a && b) = true := by rw [ha, hb]; rfl
theorem j1 : (Rows.lineTurnedRow.wf (OpenSpec.ofChange Rows.lineTurnedSpec)) = true := by kernel_rfl
theorem j2 : (laidOutB Tryz.pinned.checked.prog) = true := by kernel_rfl
theorem j3 : (mapsRowed Tryz.pinned.checked.prog) = true := by kernel_rfl
theorem j4 : (Tryz.f8.params.all (Tryz.pinned.checked.prog.readableRec ·)) = true := by kernel_rfl
theorem j5 : (namedTie Tryz.pinned.checked.prog Rows.lineTurnedRow.named Rows.lineTurnedSpec.vars) = true := by kernel_rfl
theorem j6 : ((Rows.lineTurnedRow.stops == [])) = true := by kernel_rfl
theorem j7 : ((Tryz.pinned.checked.prog.stops == [])) = true := by kernel_rfl
theorem j8 : ((Rows.lineTurnedRow.knobs == [])) = true := by kernel_rfl
theorem j9 : ((Tryz.pinned.checked.prog.stopKnobs == [])) = true := by kernel_rfl
theorem j10 : ((Rows.lineTurnedRow.inPlace == Tryz.pinned.checked.prog.inPlace 8)) = true := by kernel_rfl
theorem j11 : ((Rows.lineTurnedRow.unfollowed == Tryz.pinned.checked.prog.unfollowed 8)) = true := by kernel_rfl
theorem j12 : ((Rows.lineTurnedRow.recurses == Tryz.pinned.checked.prog.recurses 8)) = true := by kernel_rfl
theorem j13 : ((Rows.lineTurnedRow.named == Tryz.pinned.checked.prog.varsNamed 8)) = true := by kernel_rfl
theorem j14 : ((Rows.lineTurnedRow.maps == (Tryz.f8.params.toList ++ Rows.lineTurnedSpec.plain.varTypes Tryz.pinned.checked.prog).any (Tryz.pinned.checked.prog.mapsRec ·))) = true := by kernel_rfl
theorem j15 : ((Rows.lineTurnedRow.ifaces == (Tryz.f8.params.toList ++ Rows.lineTurnedSpec.plain.varTypes Tryz.pinned.checked.prog).any (Tryz.pinned.checked.prog.ifacesRec ·))) = true := by kernel_rfl
theorem j16 : ((Rows.lineTurnedRow.mapsOut == Tryz.pinned.checked.prog.mapsAmong Tryz.f8.resultTypes.toList)) = true := by kernel_rfl
theorem j17 : ((Rows.lineTurnedRow.loops == (Tryz.f8.params.toList ++ Rows.lineTurnedSpec.plain.varTypes Tryz.pinned.checked.prog).any (Tryz.pinned.checked.prog.loopsFrom ·))) = true := by kernel_rfl
theorem j18 : ((Rows.lineTurnedRow.wideKeys == (Tryz.f8.params.toList ++ Rows.lineTurnedSpec.plain.varTypes Tryz.pinned.checked.prog ++ Tryz.f8.resultTypes.toList).any (Tryz.pinned.checked.prog.wideKeysFrom ·))) = true := by kernel_rfl
theorem j19 : (Rows.lineTurnedSpec.vars.all (Tryz.pinned.checked.prog.varReadable ·)) = true := by kernel_rfl
theorem j20 : (Tryz.f8.resultTypes.all (fun t => Tryz.pinned.checked.prog.readableRec t && decide (t < Tryz.pinned.checked.prog.types.size))) = true := by kernel_rfl
theorem j21 : ((Rows.lineTurnedRow.ifacesOut == Tryz.f8.resultTypes.toList.any (Tryz.pinned.checked.prog.ifacesRec ·))) = true := by kernel_rfl
theorem j22 : ((Rows.lineTurnedRow.loopsOut == Tryz.f8.resultTypes.toList.any (Tryz.pinned.checked.prog.loopsFrom ·))) = true := by kernel_rfl
theorem j23 : ((Rows.lineTurnedRow.plainKeys == Tryz.pinned.checked.prog.plainKeys)) = true := by kernel_rfl
theorem j24 : (Rows.lineTurnedRow.shortTexts.isNone) = true := by kernel_rfl
theorem j25 : (Tryz.pinned.checked.prog.stopsHeard) = true := by kernel_rfl
theorem j26 : (Tryz.pinned.checked.prog.mayEnter) = true := by kernel_rfl
theorem j27 : ((Rows.lineTurnedRow.lifted == Tryz.pinned.checked.prog.liftsFinal)) = true := by kernel_rfl
theorem j28 : ((Tryz.pinned.checked.prog.make == some Rows.lineTurnedRow.make)) = true := by kernel_rfl
theorem j29 : ((Rows.lineTurnedRow.kinds == (if Rows.lineTurnedRow.domain.isEmpty then [] else Tryz.f8.params.toList.map fun t => match Tryz.pinned.checked.prog.underlying t with | some (.int k) => some k | _ => none))) = true := by kernel_rfl
theorem j30 : ((Rows.lineTurnedRow.pinned == Rows.lineTurnedRow.pinnedBy)) = true := by kernel_rfl
theorem j31 : ((Rows.lineTurnedRow.veiled == (Tryz.f8.params.toList ++ Rows.lineTurnedSpec.plain.varTypes Tryz.pinned.checked.prog ++ Tryz.f8.resultTypes.toList).any (Tryz.pinned.checked.prog.veiledRec ·))) = true := by kernel_rfl
theorem j32 : (Rows.lineTurnedRow.veiledFits Tryz.pinned.checked.prog Tryz.f8.params.toList (Tryz.f8.params.toList ++ Rows.lineTurnedSpec.plain.varTypes Tryz.pinned.checked.prog ++ Tryz.f8.resultTypes.toList)) = true := by kernel_rfl
set_option maxRecDepth 100000 in
theorem closed : joinedFacts Tryz.pinned.checked.prog 8 Tryz.f8 Rows.lineTurnedSpec Rows.lineTurnedRow = true := by
  unfold joinedFacts
  exact (and2 (and2 (and2 (and2 (and2 (and2 (and2 (and2 (and2 (and2 (and2 (and2 (and2 (and2 (and2 (and2 (and2 (and2 (and2 (and2 (and2 (and2 (and2 (and2 (and2 (and2 (and2 (and2 (and2 (and2 (and2 j1 j2) j3) j4) j5) j6) j7) j8) j9) j10) j11) j12) j13) j14) j15) j16) j17) j18) j19) j20) j21) j22) j23) j24) j25) j26) j27) j28) j29) j30) j31) j32)
theorem named : Tryz.pinned.checked.prog.funcNamed Rows.lineTurnedRow.func = some 8 := by kernel_rfl

theorem over : Rows.lineTurnedRow.holds Tryz.pinned (OpenSpec.ofChange Rows.lineTurnedSpec) :=
  OpenClaim.holds_of_wide 8 Tryz.f8 rfl rfl rfl rfl rfl rfl rfl ⟨rfl, rfl, rfl, rfl, rfl⟩ rfl rfl rfl rfl rfl named Tryz.func8 closed
    (of_decide_eq_true (by kernel_rfl)) (by unfold Func.isWrapper; first | (rw [if_pos (by decide +kernel)]; kernel_rfl) | (rw [if_neg (by decide +kernel)]; exact ⟨rfl, rfl⟩))
    (fun os started H enc _ => lifted os started H enc)

theorem plain (f : FuncId) (fn : Func) (hf : Tryz.pinned.checked.prog.funcNamed "grist/gristlaw17.LineTurned" = some f) (hfn : Tryz.pinned.checked.prog.funcs[f]? = some fn) :
    true = Tryz.pinned.checked.prog.looks [] ∧ ∀ (j : Nat) t, fn.params[j]? = some t → Tryz.pinned.checked.prog.wantsStandIn t = false := by
  obtain rfl : f = 8 := Option.some.inj ((show Tryz.prog.funcNamed "grist/gristlaw17.LineTurned" = some 8 by kernel_rfl).symm.trans hf) |>.symm
  obtain rfl : fn = Tryz.f8 := (Option.some.inj (Tryz.func8.symm.trans hfn)).symm
  refine ⟨by kernel_rfl, fun j t ht => ?_⟩
  rw [Tryz.params8] at ht
  have hm : t ∈ [27, 3, 5, 3] := by simpa using Array.mem_of_getElem? ht
  have hall : ([27, 3, 5, 3].all fun u => !Tryz.prog.wantsStandIn u) = true := by kernel_rfl
  exact (show Tryz.prog.wantsStandIn t = false by simpa using List.all_eq_true.1 hall t hm)
theorem proved : Rows.LineTurnedCardSaid :=
  Claim7.holds_tied_plain_at .later [] _ _ _ _ over (fun _ h => by cases h) (by kernel_rfl) (fun _ h => by cases h) lineTurned_row_tie rfl ⟨rfl, rfl⟩ (by kernel_rfl) rfl plain (by kernel_rfl)
end Go.Proofs.YtagiddbfhlokcaaGreatDoor.lineTurnedDone
namespace Go.Proofs.YtagiddbfhlokcaaGreatDoor
theorem lineTurned_holds : Rows.LineTurnedCardSaid := lineTurnedDone.proved
#print axioms lineTurned_holds
end Go.Proofs.YtagiddbfhlokcaaGreatDoor
