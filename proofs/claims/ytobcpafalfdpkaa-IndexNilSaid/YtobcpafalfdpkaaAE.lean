/- One tag's stores, as runs: a name's measurement on its way. No condition. -/
import Derived.Test.YtobcpafalfdpkaaAD
namespace Go.Proofs.Ytobcpafalfdpkaa
open Go.RowKit Go.WideMaps Go.Sort
/-- A name's measurement on its way from w9. -/
structure Mst (w9 : World) (ρ9 : Nat → Option Role) (nm : BA) (b : Nat) (w : World) (ρ : Nat → Option Role) (μ : Me) : Prop where
  me : MeasAt w ρ nm b μ
  step : Step w9 w ρ9 ρ (Role.of nm)
theorem Mst.below {w9 w w' : World} {ρ9 ρ : Nat → Option Role} {nm : BA} {b : Nat} {μ : Me} (h : Mst w9 ρ9 nm b w ρ μ) (hb : Below w.heap.size w w') : Mst w9 ρ9 nm b w' ρ μ :=
  ⟨h.me.same hb.size (fun _ _ => rfl) fun k hk _ => hb.block k hk, h.step.trans (Step.below h.step.dom hb)⟩
def roleK (ρ : Nat → Option Role) (s : Nat) (r : Role) (k : Nat) : Option Role := if k = s then some r else ρ k
theorem below_drewN' {w w' : World} {B : Nat} (h : Below B w w') (q : Nat) : Below B w (w'.drewN q) := ⟨h.os, h.tape, h.output, h.size, h.block⟩
/-- A block of cells stays. -/
def Stay (w w' : World) : Prop := ∀ (g : Nat) (cs : Array Value) (t : TypeId), w.heap[g]? = some (.cells cs t (0, 0)) → w'.heap[g]? = some (.cells cs t (0, 0))
theorem stay_grown {α : Type} {K : VK α} {w w' : World} {b : Nat} {L : List (BA × α)} (hm : MapS w K b L) (hg : w.grownBy w' (some b)) : Stay w w' := fun g cs t h => (hg.block g (heap_lt h) fun e => by
  obtain ⟨es, c, h1⟩ := hm.obj
  rw [Option.some.inj e, h1] at h
  cases h).trans h
theorem stay_below {w w' : World} (hb : Below w.heap.size w w') : Stay w w' := fun g _ _ h => (hb.block g (heap_lt h)).trans h
theorem Stay.trans {a b c : World} (h : Stay a b) (k : Stay b c) : Stay a c := fun g cs t e => k g cs t (h g cs t e)
section
variable {w9 w : World} {ρ9 ρ : Nat → Option Role} {nm : BA} {b : Nat} {μ : Me}
theorem Mst.addKey (h : Mst w9 ρ9 nm b w ρ μ) {k : BA} (hno : get μ.A k = none) (hk : k.size ≤ maxLen) (hA : μ.A.length < maxLen) (q : Nat) :
    ∃ w', (Instr.mapUpdate 69 (.map (some μ.tm)) (.string k) (.map (some w.heap.size))).run Try.prog ((w.alloc (.map #[] 0)).drewN q) = .ok () w' ∧ Mst w9 ρ9 nm b w' (roleK ρ w.heap.size (.key nm k)) (addKey μ k w.heap.size) ∧ Stay w w' := by
  have hb1 : Below w.heap.size w ((w.alloc (.map #[] 0)).drewN q) := below_drewN' ((Below.refl w.heap.size w).alloc (Nat.le_refl _) (.map #[] 0)) q
  have hnew : MapS ((w.alloc (.map #[] 0)).drewN q) mapK w.heap.size [] := (MapS.made w mapK).same rfl
  have hs1 : ((w.alloc (.map #[] 0)).drewN q).heap.size = w.heap.size + 1 := by simp
  have h1 := h.below hb1
  obtain ⟨wa, hwa⟩ : ∃ wa, (w.alloc (.map #[] 0)).drewN q = wa := ⟨_, rfl⟩
  rw [hwa] at hb1 hnew hs1 h1 ⊢
  obtain ⟨w', hrun, hm, hg⟩ := h1.me.tgs.store Try.underlying69 k hk w.heap.size hA
  have htl := h.me.tgs.lt
  have hne : w.heap.size ≠ μ.tm := by omega
  have old : ∀ j, j < w.heap.size → roleK ρ w.heap.size (.key nm k) j = ρ j := fun j hj => by unfold roleK; rw [if_neg (by omega)]
  have ht : TurnAt w w' ρ (roleK ρ w.heap.size (.key nm k)) (.tgs nm) :=
    ⟨Nat.le_trans hb1.size hg.size, old, fun j hj hr => (hg.block j (by omega) fun e => hr (by rw [Option.some.inj e]; exact h.me.rt)).trans (hb1.block j hj)⟩
  refine ⟨w', hrun, ⟨h.me.turnKey ht hm (by unfold roleK; rw [if_pos rfl]) (hnew.same (hg.block _ hnew.lt fun e => hne (Option.some.inj e))) hno, h.step.trans ⟨hg.os.trans hb1.os, hg.tape.trans hb1.tape, hg.output.trans hb1.output, ht.size, old, fun j hj => ?_, fun j hj hq => ht.block j hj fun e => hq _ e rfl⟩⟩, (stay_below hb1).trans (stay_grown h1.me.tgs hg)⟩
  have := hg.size
  unfold roleK
  rw [if_neg (by omega)]
  exact h.step.dom j (by omega)
theorem Mst.addVal (h : Mst w9 ρ9 nm b w ρ μ) {k v : BA} {kb : Nat} (hg0 : get μ.A k = some kb) (hno : get (μ.V k) v = none) (hv : v.size ≤ maxLen) (hV : (μ.V k).length < maxLen) (q : Nat) :
    ∃ w', (Instr.mapUpdate 74 (.map (some kb)) (.string v) (.map (some w.heap.size))).run Try.prog ((w.alloc (.map #[] 0)).drewN q) = .ok () w' ∧ Mst w9 ρ9 nm b w' (roleK ρ w.heap.size (.val nm k v)) (addVal μ k v w.heap.size) ∧ Stay w w' := by
  have hb1 : Below w.heap.size w ((w.alloc (.map #[] 0)).drewN q) := below_drewN' ((Below.refl w.heap.size w).alloc (Nat.le_refl _) (.map #[] 0)) q
  have hnew : MapS ((w.alloc (.map #[] 0)).drewN q) boolK w.heap.size [] := (MapS.made w boolK).same rfl
  have hs1 : ((w.alloc (.map #[] 0)).drewN q).heap.size = w.heap.size + 1 := by simp
  have h1 := h.below hb1
  obtain ⟨wa, hwa⟩ : ∃ wa, (w.alloc (.map #[] 0)).drewN q = wa := ⟨_, rfl⟩
  rw [hwa] at hb1 hnew hs1 h1 ⊢
  obtain ⟨hr0, hm0⟩ := h.me.key _ (get_some hg0)
  obtain ⟨_, hm1⟩ := h1.me.key _ (get_some hg0)
  simp only at hr0 hm0 hm1
  obtain ⟨w', hrun, hm, hg⟩ := hm1.store Try.underlying74 v hv w.heap.size hV
  have hne : w.heap.size ≠ kb := by have := hm0.lt; omega
  have old : ∀ j, j < w.heap.size → roleK ρ w.heap.size (.val nm k v) j = ρ j := fun j hj => by unfold roleK; rw [if_neg (by omega)]
  have ht : TurnAt w w' ρ (roleK ρ w.heap.size (.val nm k v)) (.key nm k) :=
    ⟨Nat.le_trans hb1.size hg.size, old, fun j hj hr => (hg.block j (by omega) fun e => hr (by rw [Option.some.inj e]; exact hr0)).trans (hb1.block j hj)⟩
  refine ⟨w', hrun, ⟨h.me.turnVal ht hg0 hm (by unfold roleK; rw [if_pos rfl]) (hnew.same (hg.block _ hnew.lt fun e => hne (Option.some.inj e))) hno, h.step.trans ⟨hg.os.trans hb1.os, hg.tape.trans hb1.tape, hg.output.trans hb1.output, ht.size, old, fun j hj => ?_, fun j hj hq => ht.block j hj fun e => hq _ e rfl⟩⟩, (stay_below hb1).trans (stay_grown hm1 hg)⟩
  have := hg.size
  unfold roleK
  rw [if_neg (by omega)]
  exact h.step.dom j (by omega)
theorem Mst.grown (h : Mst w9 ρ9 nm b w ρ μ) {w' : World} {r : Role} {x : Nat} {μ' : Me} (hg : w.grownBy w' (some x)) (hx : ρ x = some r) (hr : r.of nm) (hm : TurnAt w w' ρ ρ r → MeasAt w' ρ nm b μ') : Mst w9 ρ9 nm b w' ρ μ' :=
  ⟨hm (TurnAt.of_grown hg hx fun _ _ => rfl), h.step.trans (Step.of_grown hg hx hr h.step.dom)⟩
theorem Mst.addText (h : Mst w9 ρ9 nm b w ρ μ) {k v t : BA} {kb vb : Nat} (hg0 : get μ.A k = some kb) (hg1 : get (μ.V k) v = some vb) (ht : t.size ≤ maxLen) (hX : (μ.X k v).length < maxLen) :
    ∃ w', (Instr.mapUpdate 75 (.map (some vb)) (.string t) (.bool true)).run Try.prog w = .ok () w' ∧ Mst w9 ρ9 nm b w' ρ (addText μ k v t) ∧ Stay w w' := by
  obtain ⟨hr0, hm0⟩ := h.me.val _ (get_some hg0) _ (get_some hg1)
  simp only at hr0 hm0
  obtain ⟨w', hrun, hm, hg⟩ := hm0.store Try.underlying75 t ht true hX
  exact ⟨w', hrun, h.grown hg hr0 rfl fun ta => h.me.turnText ta hg0 hg1 hm, stay_grown hm0 hg⟩
theorem Mst.lessText (h : Mst w9 ρ9 nm b w ρ μ) {k v t : BA} {kb vb : Nat} (hg0 : get μ.A k = some kb) (hg1 : get (μ.V k) v = some vb) (ht : t.size ≤ maxLen) :
    ∃ w', (∀ ty, (Builtin.delete_ #[75, 9] ty #[.map (some vb), .string t]).run Try.prog w = .ok (.tuple #[]) w') ∧ Mst w9 ρ9 nm b w' ρ (lessText μ k v t) ∧ Stay w w' := by
  obtain ⟨hr0, hm0⟩ := h.me.val _ (get_some hg0) _ (get_some hg1)
  simp only at hr0 hm0
  obtain ⟨w', hrun, hm, hg⟩ := hm0.drop Try.underlying75 t ht 0
  exact ⟨w', fun ty => hrun, h.grown hg hr0 rfl fun ta => h.me.turnText ta hg0 hg1 hm, stay_grown hm0 hg⟩
theorem Mst.lessVal (h : Mst w9 ρ9 nm b w ρ μ) {k v : BA} {kb : Nat} (hg0 : get μ.A k = some kb) (hv : v.size ≤ maxLen) :
    ∃ w', (∀ ty, (Builtin.delete_ #[74, 9] ty #[.map (some kb), .string v]).run Try.prog w = .ok (.tuple #[]) w') ∧ Mst w9 ρ9 nm b w' ρ (lessVal μ k v) ∧ Stay w w' := by
  obtain ⟨hr0, hm0⟩ := h.me.key _ (get_some hg0)
  simp only at hr0 hm0
  obtain ⟨w', hrun, hm, hg⟩ := hm0.drop Try.underlying74 v hv 0
  exact ⟨w', fun ty => hrun, h.grown hg hr0 rfl fun ta => h.me.lessVal ta hg0 hm, stay_grown hm0 hg⟩
theorem Mst.lessKey (h : Mst w9 ρ9 nm b w ρ μ) {k : BA} (hk : k.size ≤ maxLen) :
    ∃ w', (∀ ty, (Builtin.delete_ #[69, 9] ty #[.map (some μ.tm), .string k]).run Try.prog w = .ok (.tuple #[]) w') ∧ Mst w9 ρ9 nm b w' ρ (lessKey μ k) ∧ Stay w w' := by
  obtain ⟨w', hrun, hm, hg⟩ := h.me.tgs.drop Try.underlying69 k hk 0
  exact ⟨w', fun ty => hrun, h.grown hg h.me.rt rfl fun ta => h.me.lessKey ta hm, stay_grown h.me.tgs hg⟩
/-- What is read of a name's tags. -/
theorem Mst.lookA (h : Mst w9 ρ9 nm b w ρ μ) {k : BA} (hk : k.size ≤ maxLen) : (Instr.lookup 69 (.map (some μ.tm)) (.string k) false).run Try.prog w = .ok (.map (get μ.A k)) w := look69 (a := some μ.tm) h.me.tgs k hk
theorem Mst.lookV (h : Mst w9 ρ9 nm b w ρ μ) {k v : BA} {kb : Nat} (hg : get μ.A k = some kb) (hv : v.size ≤ maxLen) : (Instr.lookup 74 (.map (some kb)) (.string v) false).run Try.prog w = .ok (.map (get (μ.V k) v)) w :=
  look74 (a := some kb) (h.me.key _ (get_some hg)).2 v hv
theorem Mst.cells (h : Mst w9 ρ9 nm b w ρ μ) : w.cell? ⟨b, 0, none⟩ = some (.map (some μ.sm)) ∧ w.cell? ⟨b, 1, none⟩ = some (.map (some μ.tm)) := by
  have := h.me.blk
  exact ⟨by simp [World.cell?, this], by simp [World.cell?, this]⟩
end
theorem Mst.putSer {w9 w : World} {ρ9 ρ : Nat → Option Role} {nm : BA} {b : Nat} {μ : Me} (h : Mst w9 ρ9 nm b w ρ μ) {t : BA} {sv : SV} (hs : SerAt w sv) (hf : ∀ b o, sv.a = some (b, o) → sv.sr.tags ≠ [] → ρ b = none) (ht : t.size ≤ maxLen) (hX : μ.ss.length < maxLen) :
    ∃ w', (Instr.mapUpdate 68 (.map (some μ.sm)) (.string t) sv.val).run Try.prog w = .ok () w' ∧ Mst w9 ρ9 nm b w' ρ { μ with ss := put μ.ss t sv } ∧ Stay w w' := by
  obtain ⟨w', hrun, hm, hg⟩ := h.me.ser.store Try.underlying68 t ht sv hX
  have ht' : TurnAt w w' ρ ρ (.ser nm) := TurnAt.of_grown hg h.me.rs fun _ _ => rfl
  refine ⟨w', hrun, h.grown hg h.me.rs rfl fun ta => h.me.turnSer ta hm fun p hp => ?_, stay_grown h.me.ser hg⟩
  rcases put_mem.1 hp with rfl | hp
  · exact .inr (ht'.rows ⟨hs, hf⟩)
  · exact .inl hp.1
theorem Mst.dropSer {w9 w : World} {ρ9 ρ : Nat → Option Role} {nm : BA} {b : Nat} {μ : Me} (h : Mst w9 ρ9 nm b w ρ μ) {t : BA} (ht : t.size ≤ maxLen) :
    ∃ w', (∀ ty, (Builtin.delete_ #[68, 9] ty #[.map (some μ.sm), .string t]).run Try.prog w = .ok (.tuple #[]) w') ∧ Mst w9 ρ9 nm b w' ρ { μ with ss := del μ.ss t } ∧ Stay w w' := by
  obtain ⟨w', hrun, hm, hg⟩ := h.me.ser.drop Try.underlying68 t ht 0
  exact ⟨w', fun ty => hrun, h.grown hg h.me.rs rfl fun ta => h.me.turnSer ta hm fun p hp => .inl (del_mem.1 hp).1, stay_grown h.me.ser hg⟩
theorem Chg.pre {w w2 w3 : World} {ρ ρ' : Nat → Option Role} {x m : Nat} {L : List (BA × Nat)} {M : BA → Me} {L' : List (BA × Nat)} {M' : BA → Me} {nm : BA} (hd : ∀ k, w.heap.size ≤ k → ρ k = none) (hb : Below w.heap.size w w2) (h : Chg w2 w3 ρ ρ' x m L M L' M' nm) : Chg w w3 ρ ρ' x m L M L' M' nm :=
  ⟨h.idx, (Step.below hd hb).trans h.step, h.other, h.len⟩
theorem Chg.post {w w2 w3 : World} {ρ ρ' : Nat → Option Role} {x m : Nat} {L : List (BA × Nat)} {M : BA → Me} {L' : List (BA × Nat)} {M' : BA → Me} {nm : BA} (h : Chg w w2 ρ ρ' x m L M L' M' nm) (hb : Below w2.heap.size w2 w3) : Chg w w3 ρ ρ' x m L M L' M' nm :=
  ⟨h.idx.below hb, h.step.trans (Step.below h.step.dom hb), h.other, h.len⟩
/-- Where a series' tags lie no role is, but perhaps that of another's. -/
def FreeV (ρ : Nat → Option Role) (v : Value) : Prop := ∀ nm a n c, v = .agg #[nm, .slice (some a) n c] → n ≠ 0 → ∀ r, ρ a.block = some r → r = .idx
theorem SrIn.step {w w' : World} {ρ ρ' : Nat → Option Role} {Q : Role → Prop} {v : Value} {s : Sr} (h : SrIn w v s) (hs : Step w w' ρ ρ' Q) (hf : FreeV ρ v) (hq : ¬ Q .idx) : SrIn w' v s := by
  obtain ⟨a, c, rfl, h0, h1, h2, h3⟩ := h
  refine ⟨a, c, rfl, h0, h1, fun i hi => ?_, h3⟩
  obtain ⟨b, off, rfl, hb, hc1, hc2⟩ := h2 i hi
  have hk := hs.block b hb fun r e => by rw [hf _ _ _ _ rfl (by omega) r e]; exact hq
  exact ⟨b, off, rfl, Nat.lt_of_lt_of_le hb hs.size, (World.cell?_of_block (a := ⟨b, off + i * 2, none⟩) hk).trans hc1, (World.cell?_of_block (a := ⟨b, off + i * 2 + 1, none⟩) hk).trans hc2⟩
theorem eql74 (o : Option Nat) (w : World) : (binOp .eql 74 (.map o) (.map none)).run Try.prog w = .ok (.bool o.isNone) w := run_eql_map_nil w 74 9 75 o Try.underlying74
theorem eql75 (o : Option Nat) (w : World) : (binOp .eql 75 (.map o) (.map none)).run Try.prog w = .ok (.bool o.isNone) w := run_eql_map_nil w 75 9 4 o Try.underlying75
theorem wp_gen {P : Program} {c : Code} {Q : Exit → Act → World → Prop} {a : Act} {W : World} (R : World → Prop) (h : R W) (k : ∀ w, R w → Code.wp P c Q a w) : Code.wp P c Q a W := k W h
end Go.Proofs.Ytobcpafalfdpkaa
