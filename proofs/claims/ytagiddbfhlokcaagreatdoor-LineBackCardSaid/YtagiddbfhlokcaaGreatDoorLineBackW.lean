/- The card 'LineBackCardSaid' of gristlaw: for every input that can be read the law returns true and leaves what it read as it was; the variables that it lists are as the program's text lays them. Conditions: none beside the row's own. The frame was written by a program of the prover's own after the guide's worked texts. -/
import Derived.Test.YtagiddbfhlokcaaGreatDoorWBU
import Derived.Test.YtagiddbfhlokcaaGreatDoorWBQ
import Derived.Test.YtagiddbfhlokcaaGreatDoorCards
import Derived.Test.YtagiddbfhlokcaaGreatDoorTie
import Derived.WalkKit
import Derived.ProofKit
import Derived.OpenShut
import Derived.ShutString
import Derived.ChangeOld
import Derived.Below
import Derived.SevenTiedAt
import Derived.ChangeMaps5
import Derived.SizedLaws
import Derived.Deep.DeepHandedRow
namespace Go.Proofs.YtagiddbfhlokcaaGreatDoor.lineBackDone
open Go.ChangeShapes Go.WideShapes Go.ChangeAt Go.RowKit Go.ChangeMaps
set_option linter.unusedVariables false

theorem own : ownKnob Tryz.prog.godebug = none := by kernel_rfl
theorem laidOut : laidOutB Tryz.prog = true := by kernel_rfl

set_option maxRecDepth 100000 in
theorem lineBack_walk (H : Type) (enc : TypeId × Value → H) (W : World) (base : Nat) (v0 v1 : Value) (d0 d1 : DataW H) (p0 p1 : List MemPlace) (h0 : DataW.Trod enc Tryz.prog W 0 (fun _ => true) true 27 v0 d0 p0) (o0 : Value.okWide Tryz.prog W .any base 27 v0) (h1 : DataW.Trod enc Tryz.prog W 0 (fun _ => true) true 2 v1 d1 p1) (o1 : Value.okWide Tryz.prog W .any base 2 v1) (hL : laidMetH Tryz.prog Laid.lst W) :
    Calls Tryz.prog 9 #[v0, v1] W fun e w' => e = .returned (.bool true) ∧ Below W.heap.size W w' := by
  obtain ⟨name, a, fa, n, cap, fcap, tm, kf, vf, L, rfl, htm, hn, hl, hname, hks, hfs, ht, hf⟩ := Ser.row_open h0 o0
  obtain ⟨x1, rfl, rfl, rfl, w1⟩ := open_int Tryz.underlying2 o1 h1
  exact Ser.law9 name a fa n cap fcap tm x1 htm.1 htm.2 kf vf L W hn hl hname hks hfs ht hf (lst_met hL)

set_option maxRecDepth 100000 in
theorem contract (H : Type) (enc : TypeId × Value → H) (W : World) (base : Nat) (args : Array Value) (ds gs : List (DataW H)) (before : List MemPlace)
    (hval0 : ∀ (j : Nat) t v, Tryz.f9.params[j]? = some t → args[j]? = some v → Value.okWide Tryz.prog W .any base t v)
    (hW : DataW.Whole enc Tryz.prog Tryz.f9.params.toList Rows.lineBackSpec.vars false W args.toList ds gs before) (hL : laidMetH Tryz.prog Laid.lst W) :
    Calls Tryz.prog 9 args W fun e W' => ∃ v, e = .returned v ∧ Rows.lineBackSpec.post enc Tryz.prog Tryz.f9 false true false false W args v W' := by
  have hval : ∀ (j : Nat) t v, Tryz.f9.params[j]? = some t → args[j]? = some v → Value.okWide Tryz.prog W .any base t v := hval0
  have hW' := hW
  obtain ⟨p, q, hA0, hV, rfl, hfz, hnd⟩ := hW
  have hA : DataW.TrodAll enc Tryz.prog W 0 (fun _ => true) true Tryz.f9.params.toList args.toList ds p := hA0
  rw [Tryz.params9] at hA hval
  obtain ⟨v0, vs0, d0, ds0, p0, q0, hargs, rfl, rfl, h0, r0⟩ := trodAll_cons hA
  obtain ⟨v1, vs1, d1, ds1, p1, q1, rfl, rfl, rfl, h1, r1⟩ := trodAll_cons r0
  obtain ⟨rfl, rfl, rfl⟩ := trodAll_nil r1
  obtain rfl : args = #[v0, v1] := by cases args; simp_all
  obtain ⟨rfl, rfl⟩ := trodVars_none hV
  have lt0 : ∀ x ∈ p0, x.block < W.heap.size := by obtain ⟨m, hm⟩ := h0; exact DataW.trod_lt m _ _ _ hm
  have lt1 : ∀ x ∈ p1, x.block < W.heap.size := by obtain ⟨m, hm⟩ := h1; exact DataW.trod_lt m _ _ _ hm
  clear hA0 hval0
  refine (lineBack_walk H enc W base v0 v1 d0 d1 p0 p1 h0 (hval 0 27 v0 rfl rfl) h1 (hval 1 2 v1 rfl rfl) hL).mono fun e W' ⟨he, bel⟩ => ?_
  subst he
  exact ⟨_, rfl, _, _, _, [], _, [], hW', trodAll_mk1 (shut_bool Tryz.underlying4 _), (trodAll_cons_mk (Below.trod laidOut (by kernel_rfl) (of_decide_eq_true (by kernel_rfl)) h0 bel lt0) (trodAll_cons_mk (Below.trod laidOut (by kernel_rfl) (of_decide_eq_true (by kernel_rfl)) h1 bel lt1) trodAll_mk0)), rfl, bel.frame _, fun h => by cases h⟩

set_option maxRecDepth 100000 in
theorem lifted (os : Os) (started : os.Started) (H : Type) (enc : TypeId × Value → H) :
    ReturnsInHanded {} Tryz.checked os 9 .any (fun w args => (Rows.lineBackSpec.pre enc Tryz.prog Tryz.f9 Rows.lineBackRow.domain false w args ∧ laidMetH Tryz.prog Laid.lst w) ∧ sizedMet enc Tryz.prog Tryz.f9 (OpenSpec.ofChange Rows.lineBackSpec) false w args)
      (Rows.lineBackSpec.post enc Tryz.prog Tryz.f9 false true false false) := by
  refine returnsInHanded_of_change_and (C := Tryz.checked) (X := fun w _ => laidMetH Tryz.prog Laid.lst w) (fun _ _ _ hh h => h.of_heap hh) own started (by kernel_rfl) Tryz.func9
    (ChangeSpec.witness_shaped (enc := enc) (C := Tryz.checked) (os := os) (X := fun w _ => laidMetH Tryz.prog Laid.lst w) false (World.laidAll Tryz.prog os Laid.lst) #[.agg #[.string ⟨#[]⟩, .slice none 0 0, .slice none 0 0, .int .i64 0], .int .i64 0] 8 (World.laidAll_os _ _ _)
      (Laid.shaped os _) (by kernel_rfl) (by kernel_rfl) (by kernel_rfl) (Laid.met os _)) ?_
  intro W base args ds gs before hval hW _ _ hL _
  exact contract H enc W base args ds gs before hval hW hL

theorem and2 {a b : Bool} (ha : a = true) (hb : b = true) : (a && b) = true := by rw [ha, hb]; rfl
theorem j1 : (Rows.lineBackRow.wf (OpenSpec.ofChange Rows.lineBackSpec)) = true := by kernel_rfl
theorem j2 : (laidOutB Tryz.pinned.checked.prog) = true := by kernel_rfl
theorem j3 : (mapsRowed Tryz.pinned.checked.prog) = true := by kernel_rfl
theorem j4 : (Tryz.f9.params.all (Tryz.pinned.checked.prog.readableRec ·)) = true := by kernel_rfl
theorem j5 : (namedTie Tryz.pinned.checked.prog Rows.lineBackRow.named Rows.lineBackSpec.vars) = true := by kernel_rfl
theorem j6 : ((Rows.lineBackRow.stops == [])) = true := by kernel_rfl
theorem j7 : ((Tryz.pinned.checked.prog.stops == [])) = true := by kernel_rfl
theorem j8 : ((Rows.lineBackRow.knobs == [])) = true := by kernel_rfl
theorem j9 : ((Tryz.pinned.checked.prog.stopKnobs == [])) = true := by kernel_rfl
theorem j10 : ((Rows.lineBackRow.inPlace == Tryz.pinned.checked.prog.inPlace 9)) = true := by kernel_rfl
theorem j11 : ((Rows.lineBackRow.unfollowed == Tryz.pinned.checked.prog.unfollowed 9)) = true := by kernel_rfl
theorem j12 : ((Rows.lineBackRow.recurses == Tryz.pinned.checked.prog.recurses 9)) = true := by kernel_rfl
theorem j13 : ((Rows.lineBackRow.named == Tryz.pinned.checked.prog.varsNamed 9)) = true := by kernel_rfl
theorem j14 : ((Rows.lineBackRow.maps == (Tryz.f9.params.toList ++ Rows.lineBackSpec.plain.varTypes Tryz.pinned.checked.prog).any (Tryz.pinned.checked.prog.mapsRec ·))) = true := by kernel_rfl
theorem j15 : ((Rows.lineBackRow.ifaces == (Tryz.f9.params.toList ++ Rows.lineBackSpec.plain.varTypes Tryz.pinned.checked.prog).any (Tryz.pinned.checked.prog.ifacesRec ·))) = true := by kernel_rfl
theorem j16 : ((Rows.lineBackRow.mapsOut == Tryz.pinned.checked.prog.mapsAmong Tryz.f9.resultTypes.toList)) = true := by kernel_rfl
theorem j17 : ((Rows.lineBackRow.loops == (Tryz.f9.params.toList ++ Rows.lineBackSpec.plain.varTypes Tryz.pinned.checked.prog).any (Tryz.pinned.checked.prog.loopsFrom ·))) = true := by kernel_rfl
theorem j18 : ((Rows.lineBackRow.wideKeys == (Tryz.f9.params.toList ++ Rows.lineBackSpec.plain.varTypes Tryz.pinned.checked.prog ++ Tryz.f9.resultTypes.toList).any (Tryz.pinned.checked.prog.wideKeysFrom ·))) = true := by kernel_rfl
theorem j19 : (Rows.lineBackSpec.vars.all (Tryz.pinned.checked.prog.varReadable ·)) = true := by kernel_rfl
theorem j20 : (Tryz.f9.resultTypes.all (fun t => Tryz.pinned.checked.prog.readableRec t && decide (t < Tryz.pinned.checked.prog.types.size))) = true := by kernel_rfl
theorem j21 : ((Rows.lineBackRow.ifacesOut == Tryz.f9.resultTypes.toList.any (Tryz.pinned.checked.prog.ifacesRec ·))) = true := by kernel_rfl
theorem j22 : ((Rows.lineBackRow.loopsOut == Tryz.f9.resultTypes.toList.any (Tryz.pinned.checked.prog.loopsFrom ·))) = true := by kernel_rfl
theorem j23 : ((Rows.lineBackRow.plainKeys == Tryz.pinned.checked.prog.plainKeys)) = true := by kernel_rfl
theorem j24 : (Rows.lineBackRow.shortTexts.isNone) = true := by kernel_rfl
theorem j25 : (Tryz.pinned.checked.prog.stopsHeard) = true := by kernel_rfl
theorem j26 : (Tryz.pinned.checked.prog.mayEnter) = true := by kernel_rfl
theorem j27 : ((Rows.lineBackRow.lifted == Tryz.pinned.checked.prog.liftsFinal)) = true := by kernel_rfl
theorem j28 : ((Tryz.pinned.checked.prog.make == some Rows.lineBackRow.make)) = true := by kernel_rfl
theorem j29 : ((Rows.lineBackRow.kinds == (if Rows.lineBackRow.domain.isEmpty then [] else Tryz.f9.params.toList.map fun t => match Tryz.pinned.checked.prog.underlying t with | some (.int k) => some k | _ => none))) = true := by kernel_rfl
theorem j30 : ((Rows.lineBackRow.pinned == Rows.lineBackRow.pinnedBy)) = true := by kernel_rfl
theorem j31 : ((Rows.lineBackRow.veiled == (Tryz.f9.params.toList ++ Rows.lineBackSpec.plain.varTypes Tryz.pinned.checked.prog ++ Tryz.f9.resultTypes.toList).any (Tryz.pinned.checked.prog.veiledRec ·))) = true := by kernel_rfl
theorem j32 : (Rows.lineBackRow.veiledFits Tryz.pinned.checked.prog Tryz.f9.params.toList (Tryz.f9.params.toList ++ Rows.lineBackSpec.plain.varTypes Tryz.pinned.checked.prog ++ Tryz.f9.resultTypes.toList)) = true := by kernel_rfl
set_option maxRecDepth 100000 in
theorem closed : joinedFacts Tryz.pinned.checked.prog 9 Tryz.f9 Rows.lineBackSpec Rows.lineBackRow = true := by
  unfold joinedFacts
  exact (and2 (and2 (and2 (and2 (and2 (and2 (and2 (and2 (and2 (and2 (and2 (and2 (and2 (and2 (and2 (and2 (and2 (and2 (and2 (and2 (and2 (and2 (and2 (and2 (and2 (and2 (and2 (and2 (and2 (and2 (and2 j1 j2) j3) j4) j5) j6) j7) j8) j9) j10) j11) j12) j13) j14) j15) j16) j17) j18) j19) j20) j21) j22) j23) j24) j25) j26) j27) j28) j29) j30) j31) j32)
theorem named : Tryz.pinned.checked.prog.funcNamed Rows.lineBackRow.func = some 9 := by kernel_rfl

theorem over : Rows.lineBackRow.holds Tryz.pinned (OpenSpec.ofChange Rows.lineBackSpec) :=
  OpenClaim.holds_of_wide 9 Tryz.f9 rfl rfl rfl rfl rfl rfl rfl ⟨rfl, rfl, rfl, rfl, rfl⟩ rfl rfl rfl rfl rfl named Tryz.func9 closed
    (of_decide_eq_true (by kernel_rfl)) (by unfold Func.isWrapper; first | (rw [if_pos (by decide +kernel)]; kernel_rfl) | (rw [if_neg (by decide +kernel)]; exact ⟨rfl, rfl⟩))
    (fun os started H enc _ => lifted os started H enc)

theorem plain (f : FuncId) (fn : Func) (hf : Tryz.pinned.checked.prog.funcNamed "grist/gristlaw17.LineBack" = some f) (hfn : Tryz.pinned.checked.prog.funcs[f]? = some fn) :
    true = Tryz.pinned.checked.prog.looks [] ∧ ∀ (j : Nat) t, fn.params[j]? = some t → Tryz.pinned.checked.prog.wantsStandIn t = false := by
  obtain rfl : f = 9 := Option.some.inj ((show Tryz.prog.funcNamed "grist/gristlaw17.LineBack" = some 9 by kernel_rfl).symm.trans hf) |>.symm
  obtain rfl : fn = Tryz.f9 := (Option.some.inj (Tryz.func9.symm.trans hfn)).symm
  refine ⟨by kernel_rfl, fun j t ht => ?_⟩
  rw [Tryz.params9] at ht
  have hm : t ∈ [27, 2] := by simpa using Array.mem_of_getElem? ht
  have hall : ([27, 2].all fun u => !Tryz.prog.wantsStandIn u) = true := by kernel_rfl
  exact (show Tryz.prog.wantsStandIn t = false by simpa using List.all_eq_true.1 hall t hm)
theorem proved : Rows.LineBackCardSaid :=
  Claim7.holds_tied_plain_at .later [] _ _ _ _ over (fun _ h => by cases h) (by kernel_rfl) (fun _ h => by cases h) lineBack_row_tie rfl ⟨rfl, rfl⟩ (by kernel_rfl) rfl plain (by kernel_rfl)
end Go.Proofs.YtagiddbfhlokcaaGreatDoor.lineBackDone
namespace Go.Proofs.YtagiddbfhlokcaaGreatDoor
theorem lineBack_holds : Rows.LineBackCardSaid := lineBackDone.proved
#print axioms lineBack_holds
end Go.Proofs.YtagiddbfhlokcaaGreatDoor
