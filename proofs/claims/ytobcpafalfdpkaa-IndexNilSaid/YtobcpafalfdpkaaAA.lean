/- One store more in a name's maps: what the measurement is behind it. No condition. -/
import Derived.Test.YtobcpafalfdpkaaW
namespace Go.Proofs.Ytobcpafalfdpkaa
open Go.RowKit Go.WideMaps Go.Sort
def updF {β : Type} (f : BA → β) (k : BA) (y : β) : BA → β := fun x => if x = k then y else f x
def updF2 {β : Type} (f : BA → BA → β) (k v : BA) (y : β) : BA → BA → β := fun a b => if a = k ∧ b = v then y else f a b
theorem updF_same {β : Type} (f : BA → β) (k : BA) (y : β) : updF f k y k = y := if_pos rfl
theorem updF_other {β : Type} {f : BA → β} {k x : BA} {y : β} (h : x ≠ k) : updF f k y x = f x := if_neg h
theorem updF2_same {β : Type} (f : BA → BA → β) (k v : BA) (y : β) : updF2 f k v y k v = y := if_pos ⟨rfl, rfl⟩
theorem updF2_other {β : Type} {f : BA → BA → β} {k v a b : BA} {y : β} (h : ¬ (a = k ∧ b = v)) : updF2 f k v y a b = f a b := if_neg h
/-- What has turned at most: the block of one role. -/
structure TurnAt (w w' : World) (ρ ρ' : Nat → Option Role) (r0 : Role) : Prop where
  size : w.heap.size ≤ w'.heap.size
  role : ∀ k, k < w.heap.size → ρ' k = ρ k
  block : ∀ k, k < w.heap.size → ρ k ≠ some r0 → w'.heap[k]? = w.heap[k]?
section
variable {w w' : World} {ρ ρ' : Nat → Option Role} {nm : BA} {b : Nat} {μ : Me} {r0 : Role}
theorem TurnAt.mapS {α : Type} {K : VK α} {k : Nat} {L : List (BA × α)} {r : Role} (t : TurnAt w w' ρ ρ' r0) (h : MapS w K k L) (hr : ρ k = some r) (hne : r ≠ r0) : MapS w' K k L :=
  h.same (t.block k h.lt fun e => hne (by rw [hr] at e; exact Option.some.inj e))
theorem TurnAt.rows (t : TurnAt w w' ρ ρ' r0) {p : BA × SV} (h : SerAt w p.2 ∧ ∀ b o, p.2.a = some (b, o) → p.2.sr.tags ≠ [] → ρ b = none) : SerAt w' p.2 ∧ ∀ b o, p.2.a = some (b, o) → p.2.sr.tags ≠ [] → ρ' b = none := by
  obtain ⟨h1, h2⟩ := h
  have hlt : ∀ b o, p.2.a = some (b, o) → p.2.sr.tags ≠ [] → b < w.heap.size := fun b o ha hne => by
    obtain ⟨b', o', e1, e2, _⟩ := h1.tags 0 (List.length_pos_iff.2 hne)
    rw [ha] at e1
    unfold adr at e1
    simp at e1
    rw [e1.1]; exact e2
  exact ⟨h1.same t.size (fun b o ha hne => t.block b (hlt b o ha hne) fun e => (by rw [h2 b o ha hne] at e; cases e)), fun b o ha hne => (t.role b (hlt b o ha hne)).trans (h2 b o ha hne)⟩
theorem MeasAt.turnKey (h : MeasAt w ρ nm b μ) {k : BA} (t : TurnAt w w' ρ ρ' (.tgs nm)) {kb : Nat} (hA : MapS w' mapK μ.tm (put μ.A k kb)) (hkb : ρ' kb = some (.key nm k)) (hnew : MapS w' mapK kb []) (hno : get μ.A k = none) :
    MeasAt w' ρ' nm b { μ with A := put μ.A k kb, V := updF μ.V k [] } := by
  have hb := heap_lt h.blk
  have ne : ∀ p ∈ put μ.A k kb, p ≠ (k, kb) → p ∈ μ.A ∧ p.1 ≠ k := fun p hp hne => by
    rcases put_mem.1 hp with e | e
    · exact absurd e hne
    · exact e
  refine ⟨(t.role _ hb).trans h.rb, (t.block _ hb (by rw [h.rb]; simp)).trans h.blk, (t.role _ h.ser.lt).trans h.rs, t.mapS h.ser h.rs (by simp), (t.role _ h.tgs.lt).trans h.rt, hA, (t.role _ h.kin.lt).trans h.rk, t.mapS h.kin h.rk (by simp), fun p hp => ?_, fun p hp q hq => ?_, fun p hp => t.rows (h.rows p hp)⟩
  · by_cases e : p.1 = k
    · rcases put_mem.1 hp with e1 | e1
      · subst e1
        exact ⟨hkb, by simp only [updF_same]; exact hnew⟩
      · exact absurd e e1.2
    · have hp1 := (ne p hp (fun e1 => e (by rw [e1]))).1
      obtain ⟨h1, h2⟩ := h.key p hp1
      exact ⟨(t.role _ h2.lt).trans h1, by simp only [updF_other e]; exact t.mapS h2 h1 (by simp)⟩
  · by_cases e : p.1 = k
    · simp only [e, updF_same] at hq
      cases hq
    · simp only [updF_other e] at hq
      obtain ⟨h1, h2⟩ := h.val p (ne p hp (fun e1 => e (by rw [e1]))).1 q hq
      exact ⟨(t.role _ h2.lt).trans h1, t.mapS h2 h1 (by simp)⟩
theorem MeasAt.turnVal (h : MeasAt w ρ nm b μ) {k v : BA} (t : TurnAt w w' ρ ρ' (.key nm k)) {kb vb : Nat} (hg : get μ.A k = some kb) (hV : MapS w' mapK kb (put (μ.V k) v vb)) (hvb : ρ' vb = some (.val nm k v)) (hnew : MapS w' boolK vb []) (hno : get (μ.V k) v = none) :
    MeasAt w' ρ' nm b { μ with V := updF μ.V k (put (μ.V k) v vb), X := updF2 μ.X k v [] } := by
  have hb := heap_lt h.blk
  have hA := h.tgs.rising
  have one : ∀ p ∈ μ.A, p.1 = k → p.2 = kb := fun p hp e => by
    have := rising_get hA (show (p.1, p.2) ∈ μ.A from hp)
    rw [e, hg] at this
    exact (Option.some.inj this).symm
  refine ⟨(t.role _ hb).trans h.rb, (t.block _ hb (by rw [h.rb]; simp)).trans h.blk, (t.role _ h.ser.lt).trans h.rs, t.mapS h.ser h.rs (by simp), (t.role _ h.tgs.lt).trans h.rt, t.mapS h.tgs h.rt (by simp), (t.role _ h.kin.lt).trans h.rk, t.mapS h.kin h.rk (by simp), fun p hp => ?_, fun p hp q hq => ?_, fun p hp => t.rows (h.rows p hp)⟩
  · obtain ⟨h1, h2⟩ := h.key p hp
    refine ⟨(t.role _ h2.lt).trans h1, ?_⟩
    by_cases e : p.1 = k
    · simp only [e, updF_same]
      rw [one p hp e]; exact hV
    · simp only [updF_other e]
      exact t.mapS h2 h1 (by simp [e])
  · by_cases e : p.1 = k
    · simp only [e, updF_same] at hq
      rcases put_mem.1 hq with e1 | ⟨e1, e2⟩
      · subst e1
        exact ⟨by rw [e]; exact hvb, by simp only [e, updF2_same]; exact hnew⟩
      · obtain ⟨h1, h2⟩ := h.val p hp q (by rw [e]; exact e1)
        refine ⟨(t.role _ h2.lt).trans h1, ?_⟩
        simp only
        rw [updF2_other (fun e3 => e2 e3.2)]
        exact t.mapS h2 h1 (by simp)
    · simp only [updF_other e] at hq
      obtain ⟨h1, h2⟩ := h.val p hp q hq
      refine ⟨(t.role _ h2.lt).trans h1, ?_⟩
      simp only
      rw [updF2_other (fun e3 => e e3.1)]
      exact t.mapS h2 h1 (by simp)
theorem MeasAt.turnText (h : MeasAt w ρ nm b μ) {k v : BA} (t : TurnAt w w' ρ ρ' (.val nm k v)) {kb vb : Nat} (hg : get μ.A k = some kb) (hg2 : get (μ.V k) v = some vb) {Y : List (BA × Bool)} (hX : MapS w' boolK vb Y) :
    MeasAt w' ρ' nm b { μ with X := updF2 μ.X k v Y } := by
  have hb := heap_lt h.blk
  have hA := h.tgs.rising
  have hV : RisingK (μ.V k) := (h.key _ (get_some hg)).2.rising
  refine ⟨(t.role _ hb).trans h.rb, (t.block _ hb (by rw [h.rb]; simp)).trans h.blk, (t.role _ h.ser.lt).trans h.rs, t.mapS h.ser h.rs (by simp), (t.role _ h.tgs.lt).trans h.rt, t.mapS h.tgs h.rt (by simp), (t.role _ h.kin.lt).trans h.rk, t.mapS h.kin h.rk (by simp), fun p hp => ?_, fun p hp q hq => ?_, fun p hp => t.rows (h.rows p hp)⟩
  · obtain ⟨h1, h2⟩ := h.key p hp
    exact ⟨(t.role _ h2.lt).trans h1, t.mapS h2 h1 (by simp)⟩
  · obtain ⟨h1, h2⟩ := h.val p hp q hq
    refine ⟨(t.role _ h2.lt).trans h1, ?_⟩
    simp only
    by_cases e : p.1 = k ∧ q.1 = v
    · have e3 : q.2 = vb := by
        have hq' : (q.1, q.2) ∈ μ.V k := by rw [← e.1]; exact hq
        have := rising_get hV hq'
        rw [e.2, hg2] at this
        exact (Option.some.inj this).symm
      rw [e.1, e.2, updF2_same, e3]
      exact hX
    · rw [updF2_other e]
      exact t.mapS h2 h1 (by simp; exact fun a b => e ⟨a, b⟩)
/-- A key's map is made less. -/
theorem MeasAt.lessVal (h : MeasAt w ρ nm b μ) {k v : BA} (t : TurnAt w w' ρ ρ' (.key nm k)) {kb : Nat} (hg : get μ.A k = some kb) (hV : MapS w' mapK kb (del (μ.V k) v)) :
    MeasAt w' ρ' nm b { μ with V := updF μ.V k (del (μ.V k) v) } := by
  have hb := heap_lt h.blk
  have hA := h.tgs.rising
  have one : ∀ p ∈ μ.A, p.1 = k → p.2 = kb := fun p hp e => by
    have := rising_get hA (show (p.1, p.2) ∈ μ.A from hp)
    rw [e, hg] at this
    exact (Option.some.inj this).symm
  refine ⟨(t.role _ hb).trans h.rb, (t.block _ hb (by rw [h.rb]; simp)).trans h.blk, (t.role _ h.ser.lt).trans h.rs, t.mapS h.ser h.rs (by simp), (t.role _ h.tgs.lt).trans h.rt, t.mapS h.tgs h.rt (by simp), (t.role _ h.kin.lt).trans h.rk, t.mapS h.kin h.rk (by simp), fun p hp => ?_, fun p hp q hq => ?_, fun p hp => t.rows (h.rows p hp)⟩
  · obtain ⟨h1, h2⟩ := h.key p hp
    refine ⟨(t.role _ h2.lt).trans h1, ?_⟩
    by_cases e : p.1 = k
    · simp only [e, updF_same]
      rw [one p hp e]; exact hV
    · simp only [updF_other e]
      exact t.mapS h2 h1 (by simp [e])
  · have hq' : q ∈ μ.V p.1 := by
      by_cases e : p.1 = k
      · simp only [e, updF_same] at hq
        rw [e]; exact (del_mem.1 hq).1
      · simp only [updF_other e] at hq; exact hq
    obtain ⟨h1, h2⟩ := h.val p hp q hq'
    exact ⟨(t.role _ h2.lt).trans h1, t.mapS h2 h1 (by simp)⟩
theorem MeasAt.lessKey (h : MeasAt w ρ nm b μ) {k : BA} (t : TurnAt w w' ρ ρ' (.tgs nm)) (hA : MapS w' mapK μ.tm (del μ.A k)) :
    MeasAt w' ρ' nm b { μ with A := del μ.A k } := by
  have hb := heap_lt h.blk
  refine ⟨(t.role _ hb).trans h.rb, (t.block _ hb (by rw [h.rb]; simp)).trans h.blk, (t.role _ h.ser.lt).trans h.rs, t.mapS h.ser h.rs (by simp), (t.role _ h.tgs.lt).trans h.rt, hA, (t.role _ h.kin.lt).trans h.rk, t.mapS h.kin h.rk (by simp), fun p hp => ?_, fun p hp q hq => ?_, fun p hp => t.rows (h.rows p hp)⟩
  · obtain ⟨h1, h2⟩ := h.key p (del_mem.1 hp).1
    exact ⟨(t.role _ h2.lt).trans h1, t.mapS h2 h1 (by simp)⟩
  · obtain ⟨h1, h2⟩ := h.val p (del_mem.1 hp).1 q hq
    exact ⟨(t.role _ h2.lt).trans h1, t.mapS h2 h1 (by simp)⟩
theorem MeasAt.turnSer (h : MeasAt w ρ nm b μ) (t : TurnAt w w' ρ ρ' (.ser nm)) {S : List (BA × SV)} (hS : MapS w' serK μ.sm S) (hr : ∀ p ∈ S, p ∈ μ.ss ∨ (SerAt w' p.2 ∧ ∀ b o, p.2.a = some (b, o) → p.2.sr.tags ≠ [] → ρ' b = none)) :
    MeasAt w' ρ' nm b { μ with ss := S } := by
  have hb := heap_lt h.blk
  refine ⟨(t.role _ hb).trans h.rb, (t.block _ hb (by rw [h.rb]; simp)).trans h.blk, (t.role _ h.ser.lt).trans h.rs, hS, (t.role _ h.tgs.lt).trans h.rt, t.mapS h.tgs h.rt (by simp), (t.role _ h.kin.lt).trans h.rk, t.mapS h.kin h.rk (by simp), fun p hp => ?_, fun p hp q hq => ?_, fun p hp => ?_⟩
  · obtain ⟨h1, h2⟩ := h.key p hp
    exact ⟨(t.role _ h2.lt).trans h1, t.mapS h2 h1 (by simp)⟩
  · obtain ⟨h1, h2⟩ := h.val p hp q hq
    exact ⟨(t.role _ h2.lt).trans h1, t.mapS h2 h1 (by simp)⟩
  · rcases hr p hp with h1 | h1
    · exact t.rows (h.rows p h1)
    · exact h1
theorem MeasAt.turnKin (h : MeasAt w ρ nm b μ) (t : TurnAt w w' ρ ρ' (.kin nm)) {Z : List (BA × Int)} (hZ : MapS w' intK μ.km Z) :
    MeasAt w' ρ' nm b { μ with kd := Z } := by
  have hb := heap_lt h.blk
  refine ⟨(t.role _ hb).trans h.rb, (t.block _ hb (by rw [h.rb]; simp)).trans h.blk, (t.role _ h.ser.lt).trans h.rs, t.mapS h.ser h.rs (by simp), (t.role _ h.tgs.lt).trans h.rt, t.mapS h.tgs h.rt (by simp), (t.role _ h.kin.lt).trans h.rk, hZ, fun p hp => ?_, fun p hp q hq => ?_, fun p hp => t.rows (h.rows p hp)⟩
  · obtain ⟨h1, h2⟩ := h.key p hp
    exact ⟨(t.role _ h2.lt).trans h1, t.mapS h2 h1 (by simp)⟩
  · obtain ⟨h1, h2⟩ := h.val p hp q hq
    exact ⟨(t.role _ h2.lt).trans h1, t.mapS h2 h1 (by simp)⟩
end
/-- A call's frame: what has a role may turn; old blocks keep their roles. -/
structure Step (w w' : World) (ρ ρ' : Nat → Option Role) (Q : Role → Prop) : Prop where
  os : w'.os = w.os
  tape : w'.tape = w.tape
  output : w'.output = w.output
  size : w.heap.size ≤ w'.heap.size
  role : ∀ k, k < w.heap.size → ρ' k = ρ k
  dom : ∀ k, w'.heap.size ≤ k → ρ' k = none
  block : ∀ k, k < w.heap.size → (∀ r, ρ k = some r → ¬ Q r) → w'.heap[k]? = w.heap[k]?
theorem Step.refl {w : World} {ρ : Nat → Option Role} {Q : Role → Prop} (hd : ∀ k, w.heap.size ≤ k → ρ k = none) : Step w w ρ ρ Q := ⟨rfl, rfl, rfl, Nat.le_refl _, fun _ _ => rfl, hd, fun _ _ _ => rfl⟩
theorem Step.below {w w' : World} {ρ : Nat → Option Role} {Q : Role → Prop} (hd : ∀ k, w.heap.size ≤ k → ρ k = none) (hb : Below w.heap.size w w') : Step w w' ρ ρ Q :=
  ⟨hb.os, hb.tape, hb.output, hb.size, fun _ _ => rfl, fun k hk => hd k (Nat.le_trans hb.size hk), fun k hk _ => hb.block k hk⟩
theorem Step.trans {a b c : World} {ρ ρ' ρ'' : Nat → Option Role} {Q : Role → Prop} (h : Step a b ρ ρ' Q) (k : Step b c ρ' ρ'' Q) : Step a c ρ ρ'' Q :=
  ⟨k.os.trans h.os, k.tape.trans h.tape, k.output.trans h.output, Nat.le_trans h.size k.size, fun i hi => (k.role i (Nat.lt_of_lt_of_le hi h.size)).trans (h.role i hi), k.dom,
    fun i hi hq => (k.block i (Nat.lt_of_lt_of_le hi h.size) fun r e => hq r (by rw [← h.role i hi]; exact e)).trans (h.block i hi hq)⟩
theorem Step.more {w w' : World} {ρ ρ' : Nat → Option Role} {Q Q' : Role → Prop} (h : Step w w' ρ ρ' Q) (hQ : ∀ r, Q r → Q' r) : Step w w' ρ ρ' Q' := ⟨h.os, h.tape, h.output, h.size, h.role, h.dom, fun k hk hq => h.block k hk fun r e hr => hq r e (hQ r hr)⟩
theorem Step.turns {w w' : World} {ρ ρ' : Nat → Option Role} {Q : Role → Prop} (h : Step w w' ρ ρ' Q) : Turns (fun k => ρ k ≠ none) w w' :=
  ⟨h.os, h.tape, h.output, h.size, fun k hk hn => h.block k hk fun r e => absurd e (by
    have : ρ k = none := Classical.byContradiction hn
    rw [this]; simp)⟩
/-- One map's store, seen from its role. -/
theorem TurnAt.of_grown {w w' : World} {ρ ρ' : Nat → Option Role} {r0 : Role} {b : Nat} (hg : w.grownBy w' (some b)) (hb : ρ b = some r0) (hρ : ∀ k, k < w.heap.size → ρ' k = ρ k) : TurnAt w w' ρ ρ' r0 :=
  ⟨hg.size, hρ, fun k hk hne => hg.block k hk fun e => hne (by rw [Option.some.inj e]; exact hb)⟩
theorem Step.of_grown {w w' : World} {ρ : Nat → Option Role} {Q : Role → Prop} {r0 : Role} {b : Nat} (hg : w.grownBy w' (some b)) (hb : ρ b = some r0) (hQ : Q r0) (hd : ∀ k, w.heap.size ≤ k → ρ k = none) : Step w w' ρ ρ Q :=
  ⟨hg.os, hg.tape, hg.output, hg.size, fun _ _ => rfl, fun k hk => hd k (Nat.le_trans hg.size hk), fun k hk hq => hg.block k hk fun e => hq r0 (by rw [Option.some.inj e]; exact hb) hQ⟩
/-- The index behind a call that has turned one name's. -/
theorem IdxAt.close {w w' : World} {ρ ρ' : Nat → Option Role} {x m : Nat} {L : List (BA × Nat)} {M : BA → Me} {nm : BA} {b : Nat} {μ : Me} (h : IdxAt w ρ x m L M) (hb : get L nm = some b) (hm : MeasAt w' ρ' nm b μ) (hs : Step w w' ρ ρ' (Role.of nm)) : IdxAt w' ρ' x m L (updF M nm μ) := by
  refine ⟨(hs.block _ (heap_lt h.blk) fun r e => by rw [h.rx] at e; cases e; exact id).trans h.blk, (hs.role _ (heap_lt h.blk)).trans h.rx, (hs.role _ h.out.lt).trans h.rm, h.out.same (hs.block _ h.out.lt fun r e => by rw [h.rm] at e; cases e; exact id), fun p hp => ?_, hs.dom⟩
  by_cases e : p.1 = nm
  · have h1 := rising_get h.out.rising (show (p.1, p.2) ∈ L from hp)
    rw [e, hb] at h1
    rw [e, updF_same, ← Option.some.inj h1]
    exact hm
  · rw [updF_other e]
    refine (h.meas p hp).same hs.size hs.role fun k hk hr => hs.block k hk fun r e1 hr1 => ?_
    have h1 := hr r e1
    cases r <;> simp only [Role.of] at h1 hr1 <;> exact e (h1.symm.trans hr1)
end Go.Proofs.Ytobcpafalfdpkaa
