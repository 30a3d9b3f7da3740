/- The index in the heap: each block its role; a series as it lies; a name's measurement; the index. No condition. -/
import Derived.Test.YtobcpafalfdpkaaN
namespace Go.Proofs.Ytobcpafalfdpkaa
open Go.RowKit Go.WideMaps Go.Sort
/-- A series, as data. -/
structure Sr where
  name : BA
  tags : List (BA × BA)
def ba0 : BA := ⟨#[]⟩
def Sr.kf (s : Sr) (i : Nat) : BA := (s.tags.getD i (ba0, ba0)).1
def Sr.vf (s : Sr) (i : Nat) : BA := (s.tags.getD i (ba0, ba0)).2
def Sr.ok (s : Sr) : Bool := formedB s.name s.tags.length s.kf s.vf
def Sr.txt (s : Sr) : BA := ⟨(textTo s.name s.kf s.vf s.tags.length).toArray⟩
/-- A series as it lies. -/
structure SV where
  sr : Sr
  a : Option (Nat × Nat)
  c : Nat
def adr (a : Option (Nat × Nat)) : Option Addr := a.map fun p => ⟨p.1, p.2, none⟩
def SV.val (s : SV) : Value := .agg #[.string s.sr.name, .slice (adr s.a) s.sr.tags.length s.c]
def serE : Value → Option (DataW Unit × List MemPlace)
  | .agg cs => match cs.toList with
    | [.string s, .slice none n c] => some (.agg [.lit (.string s.data.toList), .nil, .nil, .lit (.int .u64 n), .lit (.int .u64 c)], [])
    | [.string s, .slice (some ⟨b, o, none⟩) n c] => some (.agg [.lit (.string s.data.toList), .lit (.int .u64 b), .lit (.int .u64 o), .lit (.int .u64 n), .lit (.int .u64 c)], [])
    | _ => none
  | _ => none
def SV.d (s : SV) : DataW Unit := .agg [.lit (.string s.sr.name.data.toList), (match s.a with | none => .nil | some p => .lit (.int .u64 p.1)), (match s.a with | none => .nil | some p => .lit (.int .u64 p.2)), .lit (.int .u64 s.sr.tags.length), .lit (.int .u64 s.c)]
theorem serE_of (s : SV) : serE s.val = some (s.d, []) := by
  obtain ⟨sr, a, c⟩ := s
  cases a <;> rfl
theorem serE_inv {x : Value} {s : SV} {p : List MemPlace} (h : serE x = some (s.d, p)) : x = s.val := by
  obtain ⟨⟨nm, tg⟩, a, c⟩ := s
  unfold serE at h
  split at h
  · rename_i cs
    split at h
    · rename_i s' n c' hcs
      unfold SV.d at h
      cases a with
      | some p => simp at h
      | none =>
        simp at h
        obtain ⟨⟨h1, h2, h3⟩, _⟩ := h
        have h4 : s' = nm := ByteArray.ext h1
        have h5 : n = tg.length := Int.ofNat.inj h2
        have h6 : c' = c := Int.ofNat.inj h3
        subst h4 h5 h6
        unfold SV.val
        congr 1
        exact Array.toList_inj.1 hcs
    · rename_i s' b o n c' hcs
      unfold SV.d at h
      cases a with
      | none => simp at h
      | some p =>
        obtain ⟨pb, po⟩ := p
        simp at h
        obtain ⟨⟨h1, h2, h3, h4, h5⟩, _⟩ := h
        have e1 : s' = nm := ByteArray.ext h1
        have e2 : b = pb := Int.ofNat.inj h2
        have e3 : o = po := Int.ofNat.inj h3
        have e4 : n = tg.length := Int.ofNat.inj h4
        have e5 : c' = c := Int.ofNat.inj h5
        subst e1 e2 e3 e4 e5
        unfold SV.val
        congr 1
        exact Array.toList_inj.1 hcs
    · cases h
  · cases h
def serK : VK SV := ⟨SV.val, serE, SV.d, serE_of, serE_inv⟩
def sv0 : SV := ⟨⟨ba0, []⟩, none, 0⟩
def ptrE : Value → Option (DataW Unit × List MemPlace)
  | .pointer none => some (.nil, [])
  | .pointer (some ⟨b, 0, none⟩) => some (.lit (.int .u64 b), [])
  | _ => none
theorem ptrE_nil {x : Value} {p : List MemPlace} (h : ptrE x = some (.nil, p)) : x = .pointer none := by
  unfold ptrE at h
  split at h <;> simp at h
  rfl
theorem ptrE_inv {x : Value} {b : Nat} {p : List MemPlace} (h : ptrE x = some (.lit (.int .u64 b), p)) : x = .pointer (some ⟨b, 0, none⟩) := by
  unfold ptrE at h
  split at h
  · simp at h
  · simp at h
    have := Int.ofNat.inj h.1
    subst this; rfl
  · cases h
def ptrK : VK Nat := ⟨fun b => .pointer (some ⟨b, 0, none⟩), ptrE, fun b => .lit (.int .u64 b), fun _ => rfl, ptrE_inv⟩
def mapE : Value → Option (DataW Unit × List MemPlace)
  | .map none => some (.nil, [])
  | .map (some b) => some (.lit (.int .u64 b), [])
  | _ => none
theorem mapE_nil {x : Value} {p : List MemPlace} (h : mapE x = some (.nil, p)) : x = .map none := by
  unfold mapE at h
  split at h <;> simp at h
  rfl
theorem mapE_inv {x : Value} {b : Nat} {p : List MemPlace} (h : mapE x = some (.lit (.int .u64 b), p)) : x = .map (some b) := by
  unfold mapE at h
  split at h
  · simp at h
  · simp at h
    have := Int.ofNat.inj h.1
    subst this; rfl
  · cases h
def mapK : VK Nat := ⟨fun b => .map (some b), mapE, fun b => .lit (.int .u64 b), fun _ => rfl, mapE_inv⟩
def boolE : Value → Option (DataW Unit × List MemPlace)
  | .bool b => some (.lit (.bool b), [])
  | _ => none
theorem boolE_inv {x : Value} {b : Bool} {p : List MemPlace} (h : boolE x = some (.lit (.bool b), p)) : x = .bool b := by
  unfold boolE at h
  split at h
  · simp at h; rw [h.1]
  · cases h
def boolK : VK Bool := ⟨.bool, boolE, fun b => .lit (.bool b), fun _ => rfl, boolE_inv⟩
def intE : Value → Option (DataW Unit × List MemPlace)
  | .int .i64 z => some (.lit (.int .i64 z), [])
  | _ => none
theorem intE_inv {x : Value} {z : Int} {p : List MemPlace} (h : intE x = some (.lit (.int .i64 z), p)) : x = .int .i64 z := by
  unfold intE at h
  split at h
  · simp at h; rw [h.1]
  · cases h
def intK : VK Int := ⟨.int .i64, intE, fun z => .lit (.int .i64 z), fun _ => rfl, intE_inv⟩
theorem zero65 (w : World) : (zeroValue 65).run Try.prog w = .ok (.pointer none) w := by kernel_rfl
theorem zero31 (w : World) : (zeroValue 31).run Try.prog w = .ok sv0.val w := by kernel_rfl
theorem zero74 (w : World) : (zeroValue 74).run Try.prog w = .ok (.map none) w := by kernel_rfl
theorem zero75 (w : World) : (zeroValue 75).run Try.prog w = .ok (.map none) w := by kernel_rfl
theorem zero4 (w : World) : (zeroValue 4).run Try.prog w = .ok (.bool false) w := by kernel_rfl
theorem zero3 (w : World) : (zeroValue 3).run Try.prog w = .ok (.int .i64 0) w := by kernel_rfl
/-- A series' tags in memory. -/
structure SerAt (w : World) (s : SV) : Prop where
  tags : TagsAt w (adr s.a) s.sr.tags.length s.sr.kf s.sr.vf
  name : s.sr.name.size ≤ maxLen
  sizes : ∀ p ∈ s.sr.tags, p.1.size ≤ maxLen ∧ p.2.size ≤ maxLen
  nil0 : s.a = none → s.c = 0
  few : s.sr.tags.length ≤ 8
theorem SerAt.later {w w' : World} {s : SV} (h : SerAt w s) (hb : Below w.heap.size w w') : SerAt w' s := ⟨h.tags.later hb, h.name, h.sizes, h.nil0, h.few⟩
theorem SerAt.kf {w : World} {s : SV} (h : SerAt w s) (i : Nat) : (s.sr.kf i).size ≤ maxLen ∧ (s.sr.vf i).size ≤ maxLen := by
  unfold Sr.kf Sr.vf
  by_cases hi : i < s.sr.tags.length
  · have e : s.sr.tags.getD i (ba0, ba0) = s.sr.tags[i] := by simp [List.getD, List.getElem?_eq_getElem hi]
    rw [e]
    exact h.sizes _ (List.getElem_mem hi)
  · have e : s.sr.tags.getD i (ba0, ba0) = (ba0, ba0) := by simp [List.getD, List.getElem?_eq_none (Nat.le_of_not_lt hi)]
    rw [e]
    exact ⟨Nat.zero_le _, Nat.zero_le _⟩
/-- The row's block stays. -/
theorem SerAt.same {w w' : World} {s : SV} (h : SerAt w s) (hs : w.heap.size ≤ w'.heap.size) (hk : ∀ b o, s.a = some (b, o) → s.sr.tags ≠ [] → w'.heap[b]? = w.heap[b]?) : SerAt w' s := by
  refine ⟨fun i hi => ?_, h.name, h.sizes, h.nil0, h.few⟩
  obtain ⟨b, off, h1, h2, h3, h4⟩ := h.tags i hi
  have ha : s.a = some (b, off) := by
    unfold adr at h1
    cases hs : s.a with
    | none => rw [hs] at h1; cases h1
    | some p =>
      rw [hs] at h1
      obtain ⟨pb, po⟩ := p
      simp at h1
      rw [h1.1, h1.2]
  have hb := hk b off ha (fun e => by rw [e] at hi; simp at hi)
  exact ⟨b, off, h1, Nat.lt_of_lt_of_le h2 hs, by rw [← h3]; exact World.cell?_of_block hb, by rw [← h4]; exact World.cell?_of_block hb⟩
/-- What a block is for. -/
inductive Role where
  | idx | outer
  | meas (nm : BA) | ser (nm : BA) | tgs (nm : BA) | kin (nm : BA)
  | key (nm k : BA) | val (nm k v : BA)
def Role.of (nm : BA) : Role → Prop
  | .meas n | .ser n | .tgs n | .kin n | .key n _ | .val n _ _ => n = nm
  | _ => False
/-- What is known of a name. -/
structure Me where
  sm : Nat
  tm : Nat
  km : Nat
  ss : List (BA × SV)
  A : List (BA × Nat)
  V : BA → List (BA × Nat)
  X : BA → BA → List (BA × Bool)
  kd : List (BA × Int)
structure MeasAt (w : World) (ρ : Nat → Option Role) (nm : BA) (b : Nat) (μ : Me) : Prop where
  rb : ρ b = some (.meas nm)
  blk : w.heap[b]? = some (.cells #[.map (some μ.sm), .map (some μ.tm), .map (some μ.km)] 72 (0, 0))
  rs : ρ μ.sm = some (.ser nm)
  ser : MapS w serK μ.sm μ.ss
  rt : ρ μ.tm = some (.tgs nm)
  tgs : MapS w mapK μ.tm μ.A
  rk : ρ μ.km = some (.kin nm)
  kin : MapS w intK μ.km μ.kd
  key : ∀ p ∈ μ.A, ρ p.2 = some (.key nm p.1) ∧ MapS w mapK p.2 (μ.V p.1)
  val : ∀ p ∈ μ.A, ∀ q ∈ μ.V p.1, ρ q.2 = some (.val nm p.1 q.1) ∧ MapS w boolK q.2 (μ.X p.1 q.1)
  rows : ∀ p ∈ μ.ss, SerAt w p.2 ∧ ∀ b o, p.2.a = some (b, o) → p.2.sr.tags ≠ [] → ρ b = none
/-- Blocks of no role of this name may turn; new roles may come. -/
theorem MeasAt.same {w w' : World} {ρ ρ' : Nat → Option Role} {nm : BA} {b : Nat} {μ : Me} (h : MeasAt w ρ nm b μ) (hs : w.heap.size ≤ w'.heap.size) (hρ : ∀ k, k < w.heap.size → ρ' k = ρ k)
    (hk : ∀ k, k < w.heap.size → (∀ r, ρ k = some r → r.of nm) → w'.heap[k]? = w.heap[k]?) : MeasAt w' ρ' nm b μ := by
  have hb := heap_lt h.blk
  refine ⟨(hρ _ hb).trans h.rb, (hk _ hb fun r e => ?_).trans h.blk, (hρ _ h.ser.lt).trans h.rs, h.ser.same (hk _ h.ser.lt fun r e => ?_), (hρ _ h.tgs.lt).trans h.rt, h.tgs.same (hk _ h.tgs.lt fun r e => ?_), (hρ _ h.kin.lt).trans h.rk, h.kin.same (hk _ h.kin.lt fun r e => ?_),
    fun p hp => ?_, fun p hp q hq => ?_, fun p hp => ?_⟩
  · rw [h.rb] at e; cases e; rfl
  · rw [h.rs] at e; cases e; rfl
  · rw [h.rt] at e; cases e; rfl
  · rw [h.rk] at e; cases e; rfl
  · obtain ⟨h1, h2⟩ := h.key p hp
    exact ⟨(hρ _ h2.lt).trans h1, h2.same (hk _ h2.lt fun r e => by rw [h1] at e; cases e; rfl)⟩
  · obtain ⟨h1, h2⟩ := h.val p hp q hq
    exact ⟨(hρ _ h2.lt).trans h1, h2.same (hk _ h2.lt fun r e => by rw [h1] at e; cases e; rfl)⟩
  · obtain ⟨h1, h2⟩ := h.rows p hp
    have hlt : ∀ b o, p.2.a = some (b, o) → p.2.sr.tags ≠ [] → b < w.heap.size := fun b o ha hne => by
      obtain ⟨b', o', e1, e2, _⟩ := h1.tags 0 (List.length_pos_iff.2 hne)
      rw [ha] at e1
      unfold adr at e1
      simp at e1
      rw [e1.1]; exact e2
    exact ⟨h1.same hs fun b o ha hne => hk b (hlt b o ha hne) fun r e => (by rw [h2 b o ha hne] at e; cases e), fun b o ha hne => (hρ b (hlt b o ha hne)).trans (h2 b o ha hne)⟩
/-- The index. -/
structure IdxAt (w : World) (ρ : Nat → Option Role) (x m : Nat) (L : List (BA × Nat)) (M : BA → Me) : Prop where
  blk : w.heap[x]? = some (.cells #[.map (some m)] 62 (0, 0))
  rx : ρ x = some .idx
  rm : ρ m = some .outer
  out : MapS w ptrK m L
  meas : ∀ p ∈ L, MeasAt w ρ p.1 p.2 (M p.1)
  dom : ∀ b, w.heap.size ≤ b → ρ b = none
theorem IdxAt.later {w w' : World} {ρ : Nat → Option Role} {x m : Nat} {L : List (BA × Nat)} {M : BA → Me} (h : IdxAt w ρ x m L M) (hs : w.heap.size ≤ w'.heap.size) (hk : ∀ k, k < w.heap.size → w'.heap[k]? = w.heap[k]?) : IdxAt w' ρ x m L M :=
  ⟨(hk _ (heap_lt h.blk)).trans h.blk, h.rx, h.rm, h.out.same (hk _ h.out.lt), fun p hp => (h.meas p hp).same hs (fun _ _ => rfl) fun k hk' _ => hk k hk', fun b hb => h.dom b (Nat.le_trans hs hb)⟩
theorem IdxAt.below {w w' : World} {ρ : Nat → Option Role} {x m : Nat} {L : List (BA × Nat)} {M : BA → Me} (h : IdxAt w ρ x m L M) (hb : Below w.heap.size w w') : IdxAt w' ρ x m L M := h.later hb.size hb.block
end Go.Proofs.Ytobcpafalfdpkaa
