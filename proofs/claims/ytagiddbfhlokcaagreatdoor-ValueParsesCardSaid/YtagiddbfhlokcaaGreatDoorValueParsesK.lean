/- The card 'ValueParsesCardSaid' of gristlaw: for every input that can be read the law returns true and leaves what it read as it was; the variables that it lists are as the program's text lays them. Conditions: none beside the row's own. The frame was written by a program of the prover's own after the guide's worked texts. -/
import Derived.Test.YtagiddbfhlokcaaGreatDoorKAF
import Derived.Test.YtagiddbfhlokcaaGreatDoorKAE
import Derived.Test.YtagiddbfhlokcaaGreatDoorCards
import Derived.Test.YtagiddbfhlokcaaGreatDoorTie
import Derived.WalkKit
import Derived.ProofKit
import Derived.OpenShut
import Derived.ShutString
import Derived.ChangeOld
import Derived.Below
import Derived.SevenTiedAt
import Derived.ChangeMaps5
import Derived.SizedLaws
import Derived.Deep.DeepHandedRow
namespace Go.Proofs.YtagiddbfhlokcaaGreatDoor.valueParsesDone
open Go.ChangeShapes Go.WideShapes Go.ChangeAt Go.RowKit Go.ChangeMaps
set_option linter.unusedVariables false

theorem own : ownKnob Tryz.prog.godebug = none := by kernel_rfl
theorem laidOut : laidOutB Tryz.prog = true := by kernel_rfl

set_option maxRecDepth 100000 in
theorem valueParses_walk (H : Type) (enc : TypeId × Value → H) (W : World) (base : Nat) (v0 : Value) (d0 : DataW H) (p0 : List MemPlace) (h0 : DataW.Trod enc Tryz.prog W 0 (fun _ => true) true 9 v0 d0 p0) (o0 : Value.okWide Tryz.prog W .any base 9 v0) {ts : List TypeId} {gs : List (DataW H)} (hsz : (DataW.weightsEach Tryz.prog (9 :: ts) (d0 :: gs)).all (· ≤ reachBytes) = true) (hL : laidMetH Tryz.prog Laid.lst W) :
    Calls Tryz.prog 6 #[v0] W fun e W' => e = .returned (.bool true) ∧ Below W.heap.size W W' := by
  obtain ⟨s, rfl, rfl, rfl, _⟩ := open_string Tryz.underlying9 o0 h0
  have hb := sized_string hsz (j := 0) (t := 9) (bytes := s.data.toList) rfl rfl
  rw [bs_eta s]
  exact law6 _ (by have := reachBytes_lt; omega) W (lst_met hL)

set_option maxRecDepth 100000 in
theorem contract (H : Type) (enc : TypeId × Value → H) (W : World) (base : Nat) (args : Array Value) (ds gs : List (DataW H)) (before : List MemPlace)
    (hval0 : ∀ (j : Nat) t v, Tryz.f6.params[j]? = some t → args[j]? = some v → Value.okWide Tryz.prog W .any base t v)
    (hW : DataW.Whole enc Tryz.prog Tryz.f6.params.toList Rows.valueParsesSpec.vars false W args.toList ds gs before) (hsz0 : (DataW.weightsEach Tryz.prog (Tryz.f6.params.toList ++ Rows.valueParsesSpec.plain.varTypes Tryz.prog) (ds ++ gs)).all (· ≤ reachBytes) = true) (hL : laidMetH Tryz.prog Laid.lst W) :
    Calls Tryz.prog 6 args W fun e W' => ∃ v, e = .returned v ∧ Rows.valueParsesSpec.post enc Tryz.prog Tryz.f6 false true false false W args v W' := by
  have hval : ∀ (j : Nat) t v, Tryz.f6.params[j]? = some t → args[j]? = some v → Value.okWide Tryz.prog W .any base t v := hval0
  have hW' := hW
  obtain ⟨p, q, hA0, hV, rfl, hfz, hnd⟩ := hW
  have hA : DataW.TrodAll enc Tryz.prog W 0 (fun _ => true) true Tryz.f6.params.toList args.toList ds p := hA0
  have hsz : (DataW.weightsEach Tryz.prog (Tryz.f6.params.toList ++ Rows.valueParsesSpec.plain.varTypes Tryz.prog) (ds ++ gs)).all (· ≤ reachBytes) = true := hsz0
  rw [Tryz.params6] at hA hval hsz
  obtain ⟨v0, vs0, d0, ds0, p0, q0, hargs, rfl, rfl, h0, r0⟩ := trodAll_cons hA
  obtain ⟨rfl, rfl, rfl⟩ := trodAll_nil r0
  obtain rfl : args = #[v0] := by cases args; simp_all
  obtain ⟨rfl, rfl⟩ := trodVars_none hV
  have lt0 : ∀ x ∈ p0, x.block < W.heap.size := by obtain ⟨m, hm⟩ := h0; exact DataW.trod_lt m _ _ _ hm
  clear hA0 hval0
  refine (valueParses_walk H enc W base v0 d0 p0 h0 (hval 0 9 v0 rfl rfl) hsz hL).mono fun e W' ⟨he, bel⟩ => ?_
  subst he
  exact ⟨_, rfl, _, _, _, [], _, [], hW', trodAll_mk1 (shut_bool Tryz.underlying4 _), (trodAll_cons_mk (Below.trod laidOut (by kernel_rfl) (of_decide_eq_true (by kernel_rfl)) h0 bel lt0) trodAll_mk0), rfl, bel.frame _, fun h => by cases h⟩

set_option maxRecDepth 100000 in
theorem lifted (os : Os) (started : os.Started) (H : Type) (enc : TypeId × Value → H) :
    ReturnsInHanded {} Tryz.checked os 6 .any (fun w args => (Rows.valueParsesSpec.pre enc Tryz.prog Tryz.f6 Rows.valueParsesRow.domain false w args ∧ laidMetH Tryz.prog Laid.lst w) ∧ sizedMet enc Tryz.prog Tryz.f6 (OpenSpec.ofChange Rows.valueParsesSpec) false w args)
      (Rows.valueParsesSpec.post enc Tryz.prog Tryz.f6 false true false false) := by
  refine returnsInHanded_of_change_and (C := Tryz.checked) (X := fun w _ => laidMetH Tryz.prog Laid.lst w) (fun _ _ _ hh h => h.of_heap hh) own started (by kernel_rfl) Tryz.func6
    (ChangeSpec.witness_shaped (enc := enc) (C := Tryz.checked) (os := os) (X := fun w _ => laidMetH Tryz.prog Laid.lst w) false (World.laidAll Tryz.prog os Laid.lst) #[.string ⟨#[]⟩] 8 (World.laidAll_os _ _ _)
      (Laid.shaped os _) (by kernel_rfl) (by kernel_rfl) (by kernel_rfl) (Laid.met os _)) ?_
  intro W base args ds gs before hval hW _ hsz hL _
  exact contract H enc W base args ds gs before hval hW hsz hL

theorem and2 {a b : Bool} (ha : a = true) (hb : b = true) : (a && b) = true := by rw [ha, hb]; rfl
theorem j1 : (Rows.valueParsesRow.wf (OpenSpec.ofChange Rows.valueParsesSpec)) = true := by kernel_rfl
theorem j2 : (laidOutB Tryz.pinned.checked.prog) = true := by kernel_rfl
theorem j3 : (mapsRowed Tryz.pinned.checked.prog) = true := by kernel_rfl
theorem j4 : (Tryz.f6.params.all (Tryz.pinned.checked.prog.readableRec ·)) = true := by kernel_rfl
theorem j5 : (namedTie Tryz.pinned.checked.prog Rows.valueParsesRow.named Rows.valueParsesSpec.vars) = true := by kernel_rfl
theorem j6 : ((Rows.valueParsesRow.stops == [])) = true := by kernel_rfl
theorem j7 : ((Tryz.pinned.checked.prog.stops == [])) = true := by kernel_rfl
theorem j8 : ((Rows.valueParsesRow.knobs == [])) = true := by kernel_rfl
theorem j9 : ((Tryz.pinned.checked.prog.stopKnobs == [])) = true := by kernel_rfl
theorem j10 : ((Rows.valueParsesRow.inPlace == Tryz.pinned.checked.prog.inPlace 6)) = true := by kernel_rfl
theorem j11 : ((Rows.valueParsesRow.unfollowed == Tryz.pinned.checked.prog.unfollowed 6)) = true := by kernel_rfl
theorem j12 : ((Rows.valueParsesRow.recurses == Tryz.pinned.checked.prog.recurses 6)) = true := by kernel_rfl
theorem j13 : ((Rows.valueParsesRow.named == Tryz.pinned.checked.prog.varsNamed 6)) = true := by kernel_rfl
theorem j14 : ((Rows.valueParsesRow.maps == (Tryz.f6.params.toList ++ Rows.valueParsesSpec.plain.varTypes Tryz.pinned.checked.prog).any (Tryz.pinned.checked.prog.mapsRec ·))) = true := by kernel_rfl
theorem j15 : ((Rows.valueParsesRow.ifaces == (Tryz.f6.params.toList ++ Rows.valueParsesSpec.plain.varTypes Tryz.pinned.checked.prog).any (Tryz.pinned.checked.prog.ifacesRec ·))) = true := by kernel_rfl
theorem j16 : ((Rows.valueParsesRow.mapsOut == Tryz.pinned.checked.prog.mapsAmong Tryz.f6.resultTypes.toList)) = true := by kernel_rfl
theorem j17 : ((Rows.valueParsesRow.loops == (Tryz.f6.params.toList ++ Rows.valueParsesSpec.plain.varTypes Tryz.pinned.checked.prog).any (Tryz.pinned.checked.prog.loopsFrom ·))) = true := by kernel_rfl
theorem j18 : ((Rows.valueParsesRow.wideKeys == (Tryz.f6.params.toList ++ Rows.valueParsesSpec.plain.varTypes Tryz.pinned.checked.prog ++ Tryz.f6.resultTypes.toList).any (Tryz.pinned.checked.prog.wideKeysFrom ·))) = true := by kernel_rfl
theorem j19 : (Rows.valueParsesSpec.vars.all (Tryz.pinned.checked.prog.varReadable ·)) = true := by kernel_rfl
theorem j20 : (Tryz.f6.resultTypes.all (fun t => Tryz.pinned.checked.prog.readableRec t && decide (t < Tryz.pinned.checked.prog.types.size))) = true := by kernel_rfl
theorem j21 : ((Rows.valueParsesRow.ifacesOut == Tryz.f6.resultTypes.toList.any (Tryz.pinned.checked.prog.ifacesRec ·))) = true := by kernel_rfl
theorem j22 : ((Rows.valueParsesRow.loopsOut == Tryz.f6.resultTypes.toList.any (Tryz.pinned.checked.prog.loopsFrom ·))) = true := by kernel_rfl
theorem j23 : ((Rows.valueParsesRow.plainKeys == Tryz.pinned.checked.prog.plainKeys)) = true := by kernel_rfl
theorem j24 : (Rows.valueParsesRow.shortTexts.isNone) = true := by kernel_rfl
theorem j25 : (Tryz.pinned.checked.prog.stopsHeard) = true := by kernel_rfl
theorem j26 : (Tryz.pinned.checked.prog.mayEnter) = true := by kernel_rfl
theorem j27 : ((Rows.valueParsesRow.lifted == Tryz.pinned.checked.prog.liftsFinal)) = true := by kernel_rfl
theorem j28 : ((Tryz.pinned.checked.prog.make == some Rows.valueParsesRow.make)) = true := by kernel_rfl
theorem j29 : ((Rows.valueParsesRow.kinds == (if Rows.valueParsesRow.domain.isEmpty then [] else Tryz.f6.params.toList.map fun t => match Tryz.pinned.checked.prog.underlying t with | some (.int k) => some k | _ => none))) = true := by kernel_rfl
theorem j30 : ((Rows.valueParsesRow.pinned == Rows.valueParsesRow.pinnedBy)) = true := by kernel_rfl
theorem j31 : ((Rows.valueParsesRow.veiled == (Tryz.f6.params.toList ++ Rows.valueParsesSpec.plain.varTypes Tryz.pinned.checked.prog ++ Tryz.f6.resultTypes.toList).any (Tryz.pinned.checked.prog.veiledRec ·))) = true := by kernel_rfl
theorem j32 : (Rows.valueParsesRow.veiledFits Tryz.pinned.checked.prog Tryz.f6.params.toList (Tryz.f6.params.toList ++ Rows.valueParsesSpec.plain.varTypes Tryz.pinned.checked.prog ++ Tryz.f6.resultTypes.toList)) = true := by kernel_rfl
set_option maxRecDepth 100000 in
theorem closed : joinedFacts Tryz.pinned.checked.prog 6 Tryz.f6 Rows.valueParsesSpec Rows.valueParsesRow = true := by
  unfold joinedFacts
  exact (and2 (and2 (and2 (and2 (and2 (and2 (and2 (and2 (and2 (and2 (and2 (and2 (and2 (and2 (and2 (and2 (and2 (and2 (and2 (and2 (and2 (and2 (and2 (and2 (and2 (and2 (and2 (and2 (and2 (and2 (and2 j1 j2) j3) j4) j5) j6) j7) j8) j9) j10) j11) j12) j13) j14) j15) j16) j17) j18) j19) j20) j21) j22) j23) j24) j25) j26) j27) j28) j29) j30) j31) j32)
theorem named : Tryz.pinned.checked.prog.funcNamed Rows.valueParsesRow.func = some 6 := by kernel_rfl
theorem over : Rows.valueParsesRow.holds Tryz.pinned (OpenSpec.ofChange Rows.valueParsesSpec) :=
  OpenClaim.holds_of_wide 6 Tryz.f6 rfl rfl rfl rfl rfl rfl rfl ⟨rfl, rfl, rfl, rfl, rfl⟩ rfl rfl rfl rfl rfl named Tryz.func6 closed
    (of_decide_eq_true (by kernel_rfl)) (by unfold Func.isWrapper; first | (rw [if_pos (by decide +kernel)]; kernel_rfl) | (rw [if_neg (by decide +kernel)]; exact ⟨rfl, rfl⟩))
    (fun os started H enc _ => lifted os started H enc)

theorem plain (f : FuncId) (fn : Func) (hf : Tryz.pinned.checked.prog.funcNamed "grist/gristlaw01.ValueParses" = some f) (hfn : Tryz.pinned.checked.prog.funcs[f]? = some fn) :
    true = Tryz.pinned.checked.prog.looks [] ∧ ∀ (j : Nat) t, fn.params[j]? = some t → Tryz.pinned.checked.prog.wantsStandIn t = false := by
  obtain rfl : f = 6 := Option.some.inj ((show Tryz.prog.funcNamed "grist/gristlaw01.ValueParses" = some 6 by kernel_rfl).symm.trans hf) |>.symm
  obtain rfl : fn = Tryz.f6 := (Option.some.inj (Tryz.func6.symm.trans hfn)).symm
  refine ⟨by kernel_rfl, fun j t ht => ?_⟩
  rw [Tryz.params6] at ht
  have hm : t ∈ [9] := by simpa using Array.mem_of_getElem? ht
  have hall : ([9].all fun u => !Tryz.prog.wantsStandIn u) = true := by kernel_rfl
  exact (show Tryz.prog.wantsStandIn t = false by simpa using List.all_eq_true.1 hall t hm)
theorem proved : Rows.ValueParsesCardSaid :=
  Claim7.holds_tied_plain_at .later [] _ _ _ _ over (fun _ h => by cases h) (by kernel_rfl) (fun _ h => by cases h) valueParses_row_tie rfl ⟨rfl, rfl⟩ (by kernel_rfl) rfl plain (by kernel_rfl)
end Go.Proofs.YtagiddbfhlokcaaGreatDoor.valueParsesDone
namespace Go.Proofs.YtagiddbfhlokcaaGreatDoor
theorem valueParses_holds : Rows.ValueParsesCardSaid := valueParsesDone.proved
#print axioms valueParses_holds
end Go.Proofs.YtagiddbfhlokcaaGreatDoor
