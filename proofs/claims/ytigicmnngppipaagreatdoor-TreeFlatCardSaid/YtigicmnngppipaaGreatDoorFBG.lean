/- Several texts of this proof, laid together. Conditions: as each says. -/
import Derived.Test.YtigicmnngppipaaGreatDoorFBF
import Derived.Recover
import Derived.Laws.Pointers
import Derived.Test.YtigicmnngppipaaGreatDoorFAT
import Derived.BigQuiet
/- The deferred function of Parse: what it makes of a panic. No condition. -/
namespace Go.Proofs.YtigicmnngppipaaGreatDoor.Tp
open Go.RowKit Lx
set_option maxRecDepth 100000
theorem z17_one : z17.all (·.oneCell') = true := st_one (x := s0) (vi := vNil) (vw := vNil) (vt := vNil) (vq := vNil) rfl rfl rfl rfl
theorem rep16 : (Array.replicate 16 undef) = #[undef, undef, undef, undef, undef, undef, undef, undef, undef, undef, undef, undef, undef, undef, undef, undef] := rfl
theorem assert63 (v : Value) (w : World) : (Instr.typeAssert (.iface 63 v) 20 63 true).run Tryz.prog w = .ok (.tuple #[v, .bool true]) w := by kernel_rfl
set_option maxHeartbeats 2000000 in
theorem catch_22 (X A E : Nat) (p : Int) (old : Array Value) (a e : Value) (w : World) (hX : w.heap[X]? = some (.cells old 31 (0, 0))) (ho : old.size = 17) (hA : w.heap[A]? = some (.cells #[a] 3 (0, 0))) (hE : w.heap[E]? = some (.cells #[e] 32 (0, 0))) (h1 : A ≠ X) (h2 : E ≠ X) (h3 : E ≠ A) :
    CallsD Tryz.prog 22 #[.pointer (some ⟨X, 0, none⟩), .pointer (some ⟨A, 0, none⟩), .pointer (some ⟨E, 0, none⟩)] (.panicking [{ v := .iface 63 (.int .i64 p), recovered := false }]) w fun e u' w' =>
      e = .returned (.tuple #[]) ∧ u' = .panicking [{ v := .iface 63 (.int .i64 p), recovered := true }] ∧ w' = ((w.setRow X z17).setCell ⟨A, 0, none⟩ (.int .i64 p)).setCell ⟨E, 0, none⟩ (.int .i64 2) := by
  refine callsD_of_wpS Tryz.func22 rfl fun c₀ cs hu => ?_
  apply wpS_seq
  apply wpS_region
  simp [wpOpsS, go_sem, recoverD, hu, Tryz.ntmps22, Exit.thenS, rep16]
  refine wpS_of_wp ?_
  have hA2 : (w.setRow X z17).cell? ⟨A, 0, none⟩ = some a := (cell_setRow_other _ _ _ _ h1).trans (Lib.cell_of_heap hA 0)
  have hE2 : (w.setRow X z17).cell? ⟨E, 0, none⟩ = some e := (cell_setRow_other _ _ _ _ h2).trans (Lib.cell_of_heap hE 0)
  have hA3 : (w.setRow X z17).frozen? ⟨A, 0, none⟩ = false := Lib.frozen_of_heap ((setRow_other _ _ _ _ h1).trans hA) 0
  have hE3 : (w.setRow X z17).frozen? ⟨E, 0, none⟩ = false := Lib.frozen_of_heap ((setRow_other _ _ _ _ h2).trans hE) 0
  have hta := assert63
  go_wp2_with (refine wpList_store_row (by rfl) 31 _ _ (by rfl) X z17 (by rfl) (by rfl) 31 old hX info31s ho z17_one ?_)
  refine ⟨rfl, _, rfl, .tuple #[], ?_, rfl, rfl, rfl⟩
  simp [results, Tryz.results22, go_sem]
theorem idle_22 (X A E : Nat) (w : World) : CallsD Tryz.prog 22 #[.pointer (some ⟨X, 0, none⟩), .pointer (some ⟨A, 0, none⟩), .pointer (some ⟨E, 0, none⟩)] .returning w fun e u' w' => e = .returned (.tuple #[]) ∧ u' = .returning ∧ w' = w := by
  refine callsD_of_wpS Tryz.func22 rfl fun c₀ cs hu => ?_
  apply wpS_seq
  apply wpS_region
  simp [wpOpsS, go_sem, recoverD, hu, Tryz.ntmps22, Exit.thenS, rep16]
  refine wpS_of_wp ?_
  go_wp2_with fail
  refine ⟨rfl, .returning, ?_, .tuple #[], ?_, rfl, rfl, rfl⟩
  · cases c₀; simp_all
  · simp [results, Tryz.results22, go_sem]
theorem results12 (tmps : Array Value) (w : World) (X A E : Nat) (cs : Array Value) (a e : Value) (h2 : tmps.getD 2 undef = .pointer (some ⟨X, 0, none⟩)) (h3 : tmps.getD 3 undef = .pointer (some ⟨A, 0, none⟩)) (h4 : tmps.getD 4 undef = .pointer (some ⟨E, 0, none⟩))
    (hX : w.heap[X]? = some (.cells cs 31 (0, 0))) (hs : cs.size = 17) (hA : w.cell? ⟨A, 0, none⟩ = some a) (hE : w.cell? ⟨E, 0, none⟩ = some e) : (results Tryz.f12 tmps).run Tryz.prog w = .ok (.tuple #[.agg cs, a, e]) w := by
  have h2' : tmps[2]?.getD undef = .pointer (some ⟨X, 0, none⟩) := by simpa using h2
  have h3' : tmps[3]?.getD undef = .pointer (some ⟨A, 0, none⟩) := by simpa using h3
  have h4' : tmps[4]?.getD undef = .pointer (some ⟨E, 0, none⟩) := by simpa using h4
  have hr := run_loadVar_row (P := Tryz.prog) w X 31 31 cs (0, 0) _ hX Tryz.underlying31 (by rfl) (by rw [hs]; exact info31s)
  have hr3 : (loadVar 3 ⟨A, 0, none⟩).run Tryz.prog w = .ok a w := by simp [hA, go_sem]
  have hr32 : (loadVar 32 ⟨E, 0, none⟩).run Tryz.prog w = .ok e w := by simp [hE, go_sem]
  simp [results, h2', h3', h4', hr, hr3, hr32, asAddr]
end Go.Proofs.YtigicmnngppipaaGreatDoor.Tp
/- What a text's tokens are like. No condition. -/
namespace Go.Proofs.YtigicmnngppipaaGreatDoor.Tp
open Go.RowKit Lx
set_option maxRecDepth 100000
/-- A sign's bytes. -/
def SignB (t : List UInt8) : Prop := (∃ c, t = [c] ∧ signB c = true) ∨ ∃ c d, t = [c, d] ∧ cmpB c = true ∧ d.toNat = 61
/-- A number's bytes: of a text that begins with a digit, or a minus and a digit. -/
def NumB (t : List UInt8) : Prop := ∃ c r, (digitB c = true ∨ minus c r = true) ∧ t = pre (c :: r) (numR false r) ∧ t.length ≤ 40
structure TokIn (n : Nat) (t : Tok) : Prop where
  size : t.2.1.data.toList.length ≤ n
  sign : t.1 = 5 → SignB t.2.1.data.toList
  num : t.1 = 3 → NumB t.2.1.data.toList
theorem pre_len (l q : List UInt8) : (pre l q).length = min (l.length - q.length) l.length := by unfold pre; rw [List.length_take]
theorem one_form {l : List UInt8} {k : Int} {t q : List UInt8} (h : one l = some (k, t, q)) : t.length ≤ l.length ∧ (k = 5 → SignB t) ∧ (k = 3 → NumB t) := by
  cases l with
  | nil => cases h
  | cons c r =>
    have h : one1 c r = some (k, t, q) := h
    unfold one1 at h
    split at h
    · cases h
      exact ⟨by rw [pre_len]; exact Nat.min_le_right _ _, (fun e => by cases e), (fun e => by cases e)⟩
    · split at h
      · rename_i hd
        split at h
        · rename_i h40
          cases h
          refine ⟨by rw [pre_len]; exact Nat.min_le_right _ _, (fun e => by cases e), fun _ => ⟨c, r, ?_, rfl, ?_⟩⟩
          · simpa using hd
          · rw [pre_len]; omega
        · cases h
      · split at h
        · rw [Option.map_eq_some_iff] at h
          obtain ⟨p, hp, he⟩ := h
          cases he
          have := quoted_len _ (Nat.le_refl _) hp
          refine ⟨by simp at *; omega, fun e => ?_, fun e => ?_⟩
          · split at e <;> cases e
          · split at e <;> cases e
        · split at h
          · rename_i hc
            cases h
            simp only [Bool.and_eq_true, decide_eq_true_eq] at hc
            refine ⟨by rw [pre_len]; exact Nat.min_le_right _ _, fun _ => .inr ?_, (fun e => by cases e)⟩
            cases r with
            | nil => exact absurd hc.2 (by decide)
            | cons d r =>
              refine ⟨c, d, ?_, hc.1, hc.2⟩
              simp only [pre, List.drop_one, List.tail_cons, List.length_cons]
              rw [show r.length + 1 + 1 - r.length = 2 by omega]
              rfl
          · split at h
            · rename_i hs
              cases h
              exact ⟨by simp, fun _ => .inl ⟨c, rfl, hs⟩, (fun e => by cases e)⟩
            · cases h
theorem lex_form (n : Nat) : ∀ (m : Nat) {acc L : List Tok} {l : List UInt8}, l.length ≤ m → l.length ≤ n → (∀ t ∈ acc, TokIn n t) → lexL n acc l = .ok L → (∀ t ∈ L, TokIn n t) ∧ L.length ≤ acc.length + l.length := by
  intro m
  induction m with
  | zero =>
    intro acc L l hm hn ha h
    have : l = [] := List.length_eq_zero_iff.1 (by omega)
    subst this
    rw [lex_end rfl] at h
    cases h
    exact ⟨ha, by omega⟩
  | succ m ih =>
    intro acc L l hm hn ha h
    cases hd : l.dropWhile blankB with
    | nil => rw [lex_end hd] at h; cases h; exact ⟨ha, by omega⟩
    | cons c r =>
      have hl := dw_len blankB l
      rw [hd] at hl
      cases ho : one (c :: r) with
      | none => rw [lex_bad hd ho] at h; cases h
      | some p =>
        obtain ⟨k, t, q⟩ := p
        rw [lex_step hd ho] at h
        have hq := one_len ho
        obtain ⟨f1, f2, f3⟩ := one_form ho
        have := ih (acc := acc ++ [(k, ofL t, ((n - (c :: r).length : Nat) : Int))]) (l := q) (by omega) (by omega) (fun t' ht' => by
          rcases List.mem_append.1 ht' with e | e
          · exact ha t' e
          · rw [List.mem_singleton.1 e]
            exact ⟨by show t.toArray.toList.length ≤ n; rw [List.toList_toArray]; omega, fun e => by show SignB t.toArray.toList; rw [List.toList_toArray]; exact f2 e, fun e => by show NumB t.toArray.toList; rw [List.toList_toArray]; exact f3 e⟩) h
        refine ⟨this.1, ?_⟩
        have h2 := this.2
        simp at h2
        omega
theorem tokens_form {s : List UInt8} {L : List Tok} {er : Int} (h : tokens s = (.ok L, er)) : er = 0 ∧ s.length ≤ 65536 ∧ L.length ≤ s.length ∧ ∀ t ∈ L, TokIn s.length t := by
  unfold tokens at h
  split at h
  · cases h
  · rename_i hs
    cases hl : lexL s.length [] s with
    | error p => rw [hl] at h; cases h
    | ok L' =>
      rw [hl] at h
      cases h
      have := lex_form s.length s.length (Nat.le_refl _) (Nat.le_refl _) (by simp) hl
      exact ⟨rfl, by omega, by simpa using this.2, this.1⟩
theorem tokens_err {s : List UInt8} {p er : Int} (h : tokens s = (.error p, er)) : er = 2 ∨ er = 4 := by
  unfold tokens at h
  split at h
  · cases h; exact .inr rfl
  · cases hl : lexL s.length [] s with
    | error q => rw [hl] at h; cases h; exact .inl rfl
    | ok L' => rw [hl] at h; cases h
theorem sign_ascii {t : List UInt8} (h : SignB t) : t.all (fun b => decide (b.toNat < 128)) = true := by
  rcases h with ⟨c, rfl, h⟩ | ⟨c, d, rfl, h, h2⟩
  · have : c.toNat < 128 := by
      unfold signB at h
      simp only [Bool.or_eq_true, decide_eq_true_eq] at h
      omega
    simp [this]
  · have : c.toNat < 128 := by
      unfold cmpB at h
      simp only [Bool.or_eq_true, decide_eq_true_eq] at h
      omega
    simp [this, h2]
theorem TokIn.ok {n : Nat} {t : Tok} (h : TokIn n t) (hn : n ≤ 65536) : TokOk t := ⟨by have := h.size; simp at this; omega, fun e => sign_ascii (h.sign e)⟩
end Go.Proofs.YtigicmnngppipaaGreatDoor.Tp
/- Parse: the statement that a text is, or the place of what cannot stand. Conditions: what ParseInt and the reader of values answer. -/
namespace Go.Proofs.YtigicmnngppipaaGreatDoor.Tp
open Go.RowKit Lx
set_option maxRecDepth 100000
def ParPost (V : List UInt8 → Value × Int) (s : List UInt8) (w : World) (e : Ending) (w' : World) : Prop :=
  Below w.heap.size w w' ∧ ∃ v, e = .returned (.tuple #[v, .int .i64 (parseP V s).2.1, .int .i64 (parseP V s).2.2]) ∧ StIs w' w.heap.size (parseP V s).1 v
/-- In Parse: its three results. -/
structure PI (w w' : World) (cs : Array Value) (a e : Int) : Prop where
  kp : Kp (fun _ => False) w w'
  xat : w'.heap[w.heap.size]? = some (.cells cs 31 (0, 0))
  aat : w'.heap[w.heap.size + 1]? = some (.cells #[.int .i64 a] 3 (0, 0))
  eat : w'.heap[w.heap.size + 2]? = some (.cells #[.int .i64 e] 32 (0, 0))
theorem PI.step {w w1 w2 : World} {cs : Array Value} {a e : Int} {S : Nat → Prop} (h : PI w w1 cs a e) (hk : Kp S w1 w2) (hS : ∀ k, S k → w.heap.size + 3 ≤ k) : PI w w2 cs a e :=
  ⟨h.kp.trans hk fun i hi hs => by have := hS i hs; omega,
   (hk.block _ (lt_of_block h.xat) fun q => by have := hS _ q; omega).trans h.xat, (hk.block _ (lt_of_block h.aat) fun q => by have := hS _ q; omega).trans h.aat, (hk.block _ (lt_of_block h.eat) fun q => by have := hS _ q; omega).trans h.eat⟩
theorem PI.setA {w w1 : World} {cs : Array Value} {a e : Int} (h : PI w w1 cs a e) (n : Int) : PI w (w1.setCell ⟨w.heap.size + 1, 0, none⟩ (.int .i64 n)) cs n e :=
  ⟨h.kp.set (p := ⟨w.heap.size + 1, 0, none⟩) (.inr (by show w.heap.size ≤ w.heap.size + 1; omega)) _, (heap_setCell_other _ _ _ _ (by show w.heap.size ≠ w.heap.size + 1; omega)).trans h.xat, heap_setCell_same _ _ _ _ _ _ h.aat, (heap_setCell_other _ _ _ _ (by show w.heap.size + 2 ≠ w.heap.size + 1; omega)).trans h.eat⟩
theorem PI.setE {w w1 : World} {cs : Array Value} {a e : Int} (h : PI w w1 cs a e) (n : Int) : PI w (w1.setCell ⟨w.heap.size + 2, 0, none⟩ (.int .i64 n)) cs a n :=
  ⟨h.kp.set (p := ⟨w.heap.size + 2, 0, none⟩) (.inr (by show w.heap.size ≤ w.heap.size + 2; omega)) _, (heap_setCell_other _ _ _ _ (by show w.heap.size ≠ w.heap.size + 2; omega)).trans h.xat, (heap_setCell_other _ _ _ _ (by show w.heap.size + 1 ≠ w.heap.size + 2; omega)).trans h.aat, heap_setCell_same _ _ _ _ _ _ h.eat⟩
theorem PI.setX {w w1 : World} {cs : Array Value} {a e : Int} (h : PI w w1 cs a e) (cs' : Array Value) : PI w (w1.setRow w.heap.size cs') cs' a e :=
  ⟨h.kp.row (.inr (Nat.le_refl _)) _, setRow_heap _ _ _ _ _ _ h.xat, (setRow_other _ _ _ _ (by omega)).trans h.aat, (setRow_other _ _ _ _ (by omega)).trans h.eat⟩
theorem PI.start (w : World) : PI w (((w.alloc (.cells z17 31 (0, 0))).alloc (.cells #[.int .i64 0] 3 (0, 0))).alloc (.cells #[.int .i64 0] 32 (0, 0))) z17 0 0 := by
  have s1 := alloc_size w (.cells z17 31 (0, 0))
  have s2 := alloc_size (w.alloc (.cells z17 31 (0, 0))) (.cells #[.int .i64 0] 3 (0, 0))
  have n1 := newest w (.cells z17 31 (0, 0))
  have n2 := newest (w.alloc (.cells z17 31 (0, 0))) (.cells #[.int .i64 0] 3 (0, 0))
  have n3 := newest ((w.alloc (.cells z17 31 (0, 0))).alloc (.cells #[.int .i64 0] 3 (0, 0))) (.cells #[.int .i64 0] 32 (0, 0))
  rw [s1] at n2
  rw [s2, s1] at n3
  exact ⟨(((Kp.refl _ _).alloc _).alloc _).alloc _, (Below.heap_alloc _ _ _ (by rw [s2, s1]; omega)).trans ((Below.heap_alloc _ _ _ (by rw [s1]; omega)).trans n1), (Below.heap_alloc _ _ _ (by rw [s2, s1]; omega)).trans n2, n3⟩
theorem PI.below {w w' : World} {cs : Array Value} {a e : Int} (h : PI w w' cs a e) : Below w.heap.size w w' := h.kp.below (Nat.le_refl _) fun _ q => q.elim
theorem toks_set {w : World} {a : Option Addr} {L : List Tok} {A : Nat} {x : Value} {T : TypeId} (h : ToksAt w a L) (hA : w.heap[A]? = some (.cells #[x] T (0, 0))) (v : Value) : ToksAt (w.setCell ⟨A, 0, none⟩ v) a L := by
  intro i hi
  obtain ⟨b, off, h1, h2, h3, h4, h5⟩ := h i hi
  have hne : b ≠ A := by
    intro e
    subst e
    have h6 : w.cell? ⟨b, off + i * 3 + 1, none⟩ = (#[x] : Array Value)[off + i * 3 + 1]? := cell_of_row w b _ #[x] T (0, 0) hA
    rw [h4] at h6
    simp at h6
  have key : ∀ j, (w.setCell ⟨A, 0, none⟩ v).cell? ⟨b, j, none⟩ = w.cell? ⟨b, j, none⟩ := fun j => World.cell?_setCell_other _ _ _ _ (by intro q; injection q with q; exact hne q.symm)
  exact ⟨b, off, h1, by rw [setCell_size]; exact h2, (key _).trans h3, (key _).trans h4, (key _).trans h5⟩
theorem z17_no (x y : Int) (s : ByteArray) : ∀ k, z17[k]? = some (.int .i64 x) → z17[k + 1]? = some (.string s) → z17[k + 2]? = some (.int .i64 y) → False
  | 0, h1, h2, h3 => by simp [z17] at h1 h2 h3
  | 1, h1, h2, h3 => by simp [z17] at h1 h2 h3
  | 2, h1, h2, h3 => by simp [z17] at h1 h2 h3
  | 3, h1, h2, h3 => by simp [z17] at h1 h2 h3
  | 4, h1, h2, h3 => by simp [z17] at h1 h2 h3
  | 5, h1, h2, h3 => by simp [z17] at h1 h2 h3
  | 6, h1, h2, h3 => by simp [z17] at h1 h2 h3
  | 7, h1, h2, h3 => by simp [z17] at h1 h2 h3
  | 8, h1, h2, h3 => by simp [z17] at h1 h2 h3
  | 9, h1, h2, h3 => by simp [z17] at h1 h2 h3
  | 10, h1, h2, h3 => by simp [z17] at h1 h2 h3
  | 11, h1, h2, h3 => by simp [z17] at h1 h2 h3
  | 12, h1, h2, h3 => by simp [z17] at h1 h2 h3
  | 13, h1, h2, h3 => by simp [z17] at h1 h2 h3
  | 14, h1, h2, h3 => by simp [z17] at h1 h2 h3
  | 15, h1, h2, h3 => by simp [z17] at h1 h2 h3
  | 16, h1, h2, h3 => by simp [z17] at h1 h2 h3
  | k + 17, h1, _, _ => by simp [z17] at h1
theorem toks_row {w : World} {a : Option Addr} {L : List Tok} {X : Nat} (h : ToksAt w a L) (hX : w.heap[X]? = some (.cells z17 31 (0, 0))) (cs : Array Value) : ToksAt (w.setRow X cs) a L := by
  intro i hi
  obtain ⟨b, off, h1, h2, h3, h4, h5⟩ := h i hi
  have hne : b ≠ X := by
    intro e
    subst e
    rw [cell_of_row w b _ z17 31 (0, 0) hX] at h3 h4 h5
    exact z17_no _ _ _ _ h3 h4 h5
  exact ⟨b, off, h1, by rw [setRow_size]; exact h2, (cell_setRow_other _ _ _ _ hne).trans h3, (cell_setRow_other _ _ _ _ hne).trans h4, (cell_setRow_other _ _ _ _ hne).trans h5⟩
theorem pat_row {w : World} {P X n o : Nat} {ts : List Tok} (h : PAt w P ts n o) (hX : w.heap[X]? = some (.cells z17 31 (0, 0))) (hne : P ≠ X) (cs : Array Value) : PAt (w.setRow X cs) P ts n o := by
  obtain ⟨a, c, h1, h2, h3, h4⟩ := h.row
  exact ⟨⟨a, c, (setRow_other _ _ _ _ hne).trans h1, toks_row h2 hX cs, h3, h4⟩, h.sz⟩
theorem q_one {w : World} {B : Nat} {q : List St} {vq : Value} (h : QIs w B q vq) : vq.oneCell' = true := by
  rcases h with ⟨_, rfl⟩ | ⟨s, vi, vw, vt, g, _, rfl, _⟩ <;> rfl
theorem put17_far (w : World) {B k : Nat} (h : k ≠ B) (x0 x1 x2 x3 x4 x5 x6 x7 x8 x9 x10 x11 x12 x13 x14 x15 x16 : Value) : (put17 w B x0 x1 x2 x3 x4 x5 x6 x7 x8 x9 x10 x11 x12 x13 x14 x15 x16).heap[k]? = w.heap[k]? := (heap_setCell_other _ _ _ _ h).trans ((heap_setCell_other _ _ _ _ h).trans ((heap_setCell_other _ _ _ _ h).trans ((heap_setCell_other _ _ _ _ h).trans ((heap_setCell_other _ _ _ _ h).trans ((heap_setCell_other _ _ _ _ h).trans ((heap_setCell_other _ _ _ _ h).trans ((heap_setCell_other _ _ _ _ h).trans ((heap_setCell_other _ _ _ _ h).trans ((heap_setCell_other _ _ _ _ h).trans ((heap_setCell_other _ _ _ _ h).trans ((heap_setCell_other _ _ _ _ h).trans ((heap_setCell_other _ _ _ _ h).trans ((heap_setCell_other _ _ _ _ h).trans ((heap_setCell_other _ _ _ _ h).trans ((heap_setCell_other _ _ _ _ h).trans ((heap_setCell_other _ _ _ _ h).trans (rfl)))))))))))))))))
theorem PI.zero {w w1 : World} {a e : Int} (h : PI w w1 z17 a e) : PI w (put17 w1 w.heap.size (.int .i64 0) (.bool false) (.slice none 0 0) (.string ⟨#[]⟩) (.string ⟨#[]⟩) (.slice none 0 0) (.int .i64 0) (.slice none 0 0) (.int .i64 0) (.int .i64 0) (.int .u64 0) (.string ⟨#[]⟩) (.bool false) (.int .i64 0) (.int .i64 0) (.string ⟨#[]⟩) (.slice none 0 0)) z17 a e :=
  ⟨put17_kp h.kp (Nat.le_refl _) _ _ _ _ _ _ _ _ _ _ _ _ _ _ _ _ _, put17_heap h.xat _ _ _ _ _ _ _ _ _ _ _ _ _ _ _ _ _, (put17_far w1 (by omega) _ _ _ _ _ _ _ _ _ _ _ _ _ _ _ _ _).trans h.aat, (put17_far w1 (by omega) _ _ _ _ _ _ _ _ _ _ _ _ _ _ _ _ _).trans h.eat⟩
theorem S0Is.low {w : World} {B B' : Nat} {s : S0} {vi vw vt : Value} (h : S0Is w B s vi vw vt) (hB : B' < B) : S0Is w B' s vi vw vt :=
  ⟨owns_base h.its fun k e => by have := (h.its.lt k e).1; omega, h.whr.keep fun k h1 _ => ⟨rfl, by omega, by omega⟩, owns_base h.tgs fun k e => by have := (h.tgs.lt k e).1; omega⟩
theorem QIs.low {w : World} {B B' : Nat} {q : List St} {vq : Value} (h : QIs w B q vq) (hB : B' < B) : QIs w B' q vq := by
  rcases h with h | ⟨s, vi, vw, vt, g, h1, h2, h3, h4, h5⟩
  · exact .inl h
  · exact .inr ⟨s, vi, vw, vt, g, h1, h2, by omega, h4, h5.low hB⟩
theorem zero_is (w : World) (B : Nat) : StIs w B (.mk s0 []) (.agg z17) := ⟨vNil, vNil, vNil, vNil, rfl, .plain rfl rfl rfl, .inl ⟨rfl, rfl⟩⟩
set_option maxHeartbeats 8000000 in
theorem parse_12 (s : ByteArray) {V : List UInt8 → Value × Int} (W w : World) (hR : Rd V W) (hW : Below W.heap.size W w) (hs0 : s.size ≤ 9223372036854775807) : Calls Tryz.prog 12 #[.string s] w (ParPost V s.data.toList w) := by
  have hmf : ∀ (fn : Fn) (first cap : Array Value) (w : World), (Instr.makeFunc fn first cap).run Tryz.prog w = .ok (.func fn first cap) w := fun _ _ _ _ => rfl
  obtain ⟨PP, hPP⟩ : ∃ PP, ParPost V s.data.toList w = PP := ⟨_, rfl⟩
  rw [hPP]
  have HPP := Lib.hid hPP
  have HR := Lib.hid hR
  have HW := Lib.hid hW
  clear hPP hR hW
  go_enter_defers Tryz.func12, Tryz.ntmps12
  go_upto_region 1 with (fail)
  refine wp_gen (fun w3 => PI w w3 z17 0 0) (PI.start w) ?_
  intro w3 hi3
  have HI3 := Lib.hid hi3
  clear hi3
  have HM4 := Lib.hid (tokens9 s w3 hs0)
  go_wp2_with fail
  refine HM4.out.mono ?_
  clear HM4
  rintro e w4 ⟨hb4, hm4⟩
  have HI4 := Lib.hid (HI3.out.step (Kp.of (S := fun _ => False) hb4) fun k q => q.elim)
  have HB4 := Lib.hid hb4
  have a4 : w4.cell? ⟨w.heap.size + 1, 0, none⟩ = some (.int .i64 0) := Lib.cell_of_heap HI4.out.aat 0
  have g4 : w4.frozen? ⟨w.heap.size + 1, 0, none⟩ = false := Lib.frozen_of_heap HI4.out.aat 0
  have e4 : w4.cell? ⟨w.heap.size + 2, 0, none⟩ = some (.int .i64 0) := Lib.cell_of_heap HI4.out.eat 0
  have h4 : w4.frozen? ⟨w.heap.size + 2, 0, none⟩ = false := Lib.frozen_of_heap HI4.out.eat 0
  clear hb4
  obtain ⟨L, er, ht⟩ : ∃ o er, tokens s.data.toList = (o, er) := ⟨_, _, rfl⟩
  rw [ht] at hm4
  cases L with
  | error p =>
    obtain rfl := hm4
    have HER := Lib.hid (tokens_err ht)
    have HT := Lib.hid (show parseP V s.data.toList = (.mk s0 [], p, er) by unfold parseP; rw [ht])
    have HI5 := Lib.hid ((HI4.out.setA p).setE er)
    have hne : (er != 0) = true := by rcases HER.out with e | e <;> (rw [e]; rfl)
    clear ht
    go_upto_region 3 with (fail)
    refine wp_gen (fun w5 => PI w w5 z17 p er) HI5.out ?_
    intro w5 hi5
    have HI6 := Lib.hid hi5
    have d0 : w5.cell? ⟨w.heap.size, 0, none⟩ = some (.int .i64 0) := Lib.cell_of_heap hi5.xat 0
    have f0 : w5.frozen? ⟨w.heap.size, 0, none⟩ = false := Lib.frozen_of_heap hi5.xat 0
    have d1 : w5.cell? ⟨w.heap.size, 1, none⟩ = some (.bool false) := Lib.cell_of_heap hi5.xat 1
    have f1 : w5.frozen? ⟨w.heap.size, 1, none⟩ = false := Lib.frozen_of_heap hi5.xat 1
    have d2 : w5.cell? ⟨w.heap.size, 2, none⟩ = some (.slice none 0 0) := Lib.cell_of_heap hi5.xat 2
    have f2 : w5.frozen? ⟨w.heap.size, 2, none⟩ = false := Lib.frozen_of_heap hi5.xat 2
    have d3 : w5.cell? ⟨w.heap.size, 3, none⟩ = some (.string ⟨#[]⟩) := Lib.cell_of_heap hi5.xat 3
    have f3 : w5.frozen? ⟨w.heap.size, 3, none⟩ = false := Lib.frozen_of_heap hi5.xat 3
    have d4 : w5.cell? ⟨w.heap.size, 4, none⟩ = some (.string ⟨#[]⟩) := Lib.cell_of_heap hi5.xat 4
    have f4 : w5.frozen? ⟨w.heap.size, 4, none⟩ = false := Lib.frozen_of_heap hi5.xat 4
    have d5 : w5.cell? ⟨w.heap.size, 5, none⟩ = some (.slice none 0 0) := Lib.cell_of_heap hi5.xat 5
    have f5 : w5.frozen? ⟨w.heap.size, 5, none⟩ = false := Lib.frozen_of_heap hi5.xat 5
    have d6 : w5.cell? ⟨w.heap.size, 6, none⟩ = some (.int .i64 0) := Lib.cell_of_heap hi5.xat 6
    have f6 : w5.frozen? ⟨w.heap.size, 6, none⟩ = false := Lib.frozen_of_heap hi5.xat 6
    have d7 : w5.cell? ⟨w.heap.size, 7, none⟩ = some (.slice none 0 0) := Lib.cell_of_heap hi5.xat 7
    have f7 : w5.frozen? ⟨w.heap.size, 7, none⟩ = false := Lib.frozen_of_heap hi5.xat 7
    have d8 : w5.cell? ⟨w.heap.size, 8, none⟩ = some (.int .i64 0) := Lib.cell_of_heap hi5.xat 8
    have f8 : w5.frozen? ⟨w.heap.size, 8, none⟩ = false := Lib.frozen_of_heap hi5.xat 8
    have d9 : w5.cell? ⟨w.heap.size, 9, none⟩ = some (.int .i64 0) := Lib.cell_of_heap hi5.xat 9
    have f9 : w5.frozen? ⟨w.heap.size, 9, none⟩ = false := Lib.frozen_of_heap hi5.xat 9
    have d10 : w5.cell? ⟨w.heap.size, 10, none⟩ = some (.int .u64 0) := Lib.cell_of_heap hi5.xat 10
    have f10 : w5.frozen? ⟨w.heap.size, 10, none⟩ = false := Lib.frozen_of_heap hi5.xat 10
    have d11 : w5.cell? ⟨w.heap.size, 11, none⟩ = some (.string ⟨#[]⟩) := Lib.cell_of_heap hi5.xat 11
    have f11 : w5.frozen? ⟨w.heap.size, 11, none⟩ = false := Lib.frozen_of_heap hi5.xat 11
    have d12 : w5.cell? ⟨w.heap.size, 12, none⟩ = some (.bool false) := Lib.cell_of_heap hi5.xat 12
    have f12 : w5.frozen? ⟨w.heap.size, 12, none⟩ = false := Lib.frozen_of_heap hi5.xat 12
    have d13 : w5.cell? ⟨w.heap.size, 13, none⟩ = some (.int .i64 0) := Lib.cell_of_heap hi5.xat 13
    have f13 : w5.frozen? ⟨w.heap.size, 13, none⟩ = false := Lib.frozen_of_heap hi5.xat 13
    have d14 : w5.cell? ⟨w.heap.size, 14, none⟩ = some (.int .i64 0) := Lib.cell_of_heap hi5.xat 14
    have f14 : w5.frozen? ⟨w.heap.size, 14, none⟩ = false := Lib.frozen_of_heap hi5.xat 14
    have d15 : w5.cell? ⟨w.heap.size, 15, none⟩ = some (.string ⟨#[]⟩) := Lib.cell_of_heap hi5.xat 15
    have f15 : w5.frozen? ⟨w.heap.size, 15, none⟩ = false := Lib.frozen_of_heap hi5.xat 15
    have d16 : w5.cell? ⟨w.heap.size, 16, none⟩ = some (.slice none 0 0) := Lib.cell_of_heap hi5.xat 16
    have f16 : w5.frozen? ⟨w.heap.size, 16, none⟩ = false := Lib.frozen_of_heap hi5.xat 16
    have a5 : w5.cell? ⟨w.heap.size + 1, 0, none⟩ = some (.int .i64 p) := Lib.cell_of_heap hi5.aat 0
    have g5 : w5.frozen? ⟨w.heap.size + 1, 0, none⟩ = false := Lib.frozen_of_heap hi5.aat 0
    have e5 : w5.cell? ⟨w.heap.size + 2, 0, none⟩ = some (.int .i64 er) := Lib.cell_of_heap hi5.eat 0
    have h5 : w5.frozen? ⟨w.heap.size + 2, 0, none⟩ = false := Lib.frozen_of_heap hi5.eat 0
    clear a4 g4 e4 h4 hi5
    go_region
    all_goals
      go_wp2_with fail
      have HI9 := Lib.hid (((HI6.out.zero.setA p).setE er).step (S := fun _ => False) ((Kp.refl _ _).drew) (fun k q => q.elim))
      refine ⟨_, results12 _ _ w.heap.size (w.heap.size + 1) (w.heap.size + 2) z17 (.int .i64 p) (.int .i64 er) rfl rfl rfl HI9.out.xat rfl (Lib.cell_of_heap HI9.out.aat 0) (Lib.cell_of_heap HI9.out.eat 0), ?_⟩
      rw [← HPP.out]
      exact ⟨HI9.out.below, _, by rw [HT.out], by rw [HT.out]; exact zero_is _ _⟩
  | ok L =>
    obtain ⟨a, c, rfl, hta, hlc, had⟩ := hm4
    have hf := tokens_form ht
    obtain rfl := hf.1
    have HF := Lib.hid hf.2
    have HT := Lib.hid ht
    have HI5 := Lib.hid ((HI4.out.setA 0).setE 0)
    have HTA := Lib.hid hta
    have HLC := Lib.hid hlc
    have HAD := Lib.hid had
    clear hf ht hta hlc had
    go_upto_region 6 with (fail)
    refine wp_gen (fun w6 => PI w w6 z17 0 0 ∧ PAt w6 w4.heap.size L s.size 0 ∧ w.heap.size + 3 ≤ w4.heap.size ∧ W.heap.size ≤ w4.heap.size) ⟨HI5.out.step (S := fun _ => False) ((Kp.refl _ _).alloc _) (fun k q => q.elim), ?pat, lt_of_block HI4.out.eat, Nat.le_trans HW.out.size (Nat.le_trans (Nat.le_add_right _ 3) (lt_of_block HI4.out.eat))⟩ ?_
    case pat =>
      have hn := newest ((w4.setCell ⟨w.heap.size + 1, 0, none⟩ (.int .i64 0)).setCell ⟨w.heap.size + 2, 0, none⟩ (.int .i64 0)) (.cells #[.slice a L.length c, .int .i64 s.size, .int .i64 0] 67 (0, 0))
      rw [setCell_size, setCell_size] at hn
      have ht := (toks_set (toks_set HTA.out HI4.out.aat (.int .i64 0)) (HI4.out.setA 0).eat (.int .i64 0)).later ((Below.refl _ _).alloc (Nat.le_refl _) (.cells #[.slice a L.length c, .int .i64 s.size, .int .i64 0] 67 (0, 0)))
      exact ⟨⟨a, c, hn, ht, HAD.out, HLC.out⟩, fun t ht => (HF.out.2.2 t ht).ok HF.out.1⟩
    rintro w6 ⟨hi6, hp6, hP3, hWP⟩
    have HI6 := Lib.hid hi6
    have HP3 := Lib.hid hP3
    have HM7 := Lib.hid (statement_23 w4.heap.size s.size W HR.out hWP L w6 (by have := HF.out.1; have := HF.out.2.1; omega) (HW.out.trans (hi6.below.mono HW.out.size)) hp6)
    have HB6 : Hid (w.heap.size + 3 ≤ w6.heap.size) := Lib.hid (by have := hp6.lt; omega)
    clear hi6 hp6 hP3 hWP a4 g4 e4 h4
    go_wp2_with fail
    refine HM7.out.mono ?_
    clear HM7
    rintro e w7 ⟨hk7, hm7⟩
    have HI7 := Lib.hid (HI6.out.step hk7 fun k e => by show w.heap.size + 3 ≤ k; rw [e]; exact HP3.out)
    clear hk7
    have hln : s.data.toList.length = s.size := by simp
    cases hst : stmtP V L with
    | error q =>
      rw [hst] at hm7
      obtain rfl := hm7
      have HT2 := Lib.hid (show parseP V s.data.toList = (.mk s0 [], placeP s.size q, 2) by unfold parseP; rw [HT.out]; simp only [hst, hln])
      unfold stuckE
      simp (config := { zetaDelta := true }) only []
      refine leaves_cons (f := 22) (args := #[.pointer (some ⟨w.heap.size, 0, none⟩), .pointer (some ⟨w.heap.size + 1, 0, none⟩), .pointer (some ⟨w.heap.size + 1 + 1, 0, none⟩)]) (by simp) (by simp [go_sem]) ?_
      refine (catch_22 w.heap.size (w.heap.size + 1) (w.heap.size + 2) _ z17 (.int .i64 0) (.int .i64 0) w7 HI7.out.xat rfl HI7.out.aat HI7.out.eat (by omega) (by omega) (by omega)).mono ?_
      rintro e u' w9 ⟨rfl, rfl, rfl⟩
      have HI9 := Lib.hid (((HI7.out.setX z17).setA (placeP s.size q)).setE 2)
      refine ⟨_, results12 _ _ w.heap.size (w.heap.size + 1) (w.heap.size + 2) z17 (.int .i64 (placeP s.size q)) (.int .i64 2) rfl rfl rfl HI9.out.xat rfl (Lib.cell_of_heap HI9.out.aat 0) (Lib.cell_of_heap HI9.out.eat 0), ?_⟩
      rw [← HPP.out]
      exact ⟨HI9.out.below, _, by rw [HT2.out], by rw [HT2.out]; exact zero_is _ _⟩
    | ok xq =>
      obtain ⟨x, q⟩ := xq
      rw [hst] at hm7
      obtain ⟨⟨v, rfl, vi, vw, vt, vq, rfl, h0, hq⟩, hp7⟩ := hm7
      obtain ⟨cs, hcs⟩ : ∃ cs, (stCells x.s vi vw vt vq).toArray = cs := ⟨_, rfl⟩
      have hsz : cs.size = 17 := by rw [← hcs]; rfl
      have h1c : cs.all (·.oneCell') = true := by rw [← hcs]; exact st_one (items_one h0.its) (cds_one h0.whr) (items_one h0.tgs) (q_one hq)
      rw [hcs]
      have HCS := Lib.hid hcs
      have HSZ := Lib.hid hsz
      have HS := Lib.hid (show (Tryz.prog.info? 31).map (·.size) = some cs.size from by rw [hsz]; exact info31s)
      have H1 := Lib.hid h1c
      have H0 := Lib.hid h0
      have HQ := Lib.hid hq
      have HP8 := Lib.hid (pat_row hp7 HI7.out.xat (by have := HP3.out; omega) cs)
      have HI8 := Lib.hid (HI7.out.setX cs)
      have HST := Lib.hid hst
      clear h0 hq hp7 hcs hsz h1c hst
      cases q with
      | nil =>
        have HT2 := Lib.hid (show parseP V s.data.toList = (x, 0, 0) by unfold parseP; rw [HT.out]; simp only [HST.out])
        obtain ⟨a8, c8, hp8, _⟩ := HP8.out.row
        have l8 : (w7.setRow w.heap.size cs).cell? ⟨w4.heap.size, 0, none⟩ = some (.slice a8 0 c8) := Lib.cell_of_heap hp8 0
        have a9 : (w7.setRow w.heap.size cs).cell? ⟨w.heap.size + 1, 0, none⟩ = some (.int .i64 0) := Lib.cell_of_heap HI8.out.aat 0
        have g9 : (w7.setRow w.heap.size cs).frozen? ⟨w.heap.size + 1, 0, none⟩ = false := Lib.frozen_of_heap HI8.out.aat 0
        have e9 : (w7.setRow w.heap.size cs).cell? ⟨w.heap.size + 2, 0, none⟩ = some (.int .i64 0) := Lib.cell_of_heap HI8.out.eat 0
        have h9 : (w7.setRow w.heap.size cs).frozen? ⟨w.heap.size + 2, 0, none⟩ = false := Lib.frozen_of_heap HI8.out.eat 0
        have hrr : (w7.setRow w.heap.size cs).setRow w.heap.size cs = w7.setRow w.heap.size cs := setRow_setRow _ _ _ _
        clear hp8
        go_wp2_with (first
          | (refine wpList_load_row (by rfl) 31 _ (by rfl) w.heap.size (by rfl) 31 cs (0, 0) _ HI8.out.xat Tryz.underlying31 (by rfl) HS.out ?_)
          | (refine wpList_store_row (by rfl) 31 _ _ (by rfl) w.heap.size cs (by rfl) (by rfl) 31 z17 HI7.out.xat HS.out (by rw [HSZ.out]; rfl) H1.out ?_)
          | (refine wpList_store_row (by rfl) 31 _ _ (by rfl) w.heap.size cs (by rfl) (by rfl) 31 cs HI8.out.xat HS.out rfl H1.out ?_; rw [hrr]))
        refine leaves_cons (f := 22) (args := #[.pointer (some ⟨w.heap.size, 0, none⟩), .pointer (some ⟨w.heap.size + 1, 0, none⟩), .pointer (some ⟨w.heap.size + 1 + 1, 0, none⟩)]) (by simp) (by simp [go_sem]) ?_
        refine (idle_22 w.heap.size (w.heap.size + 1) (w.heap.size + 2) _).mono ?_
        rintro e u' w9 ⟨rfl, rfl, rfl⟩
        have HI9 := Lib.hid ((HI8.out.setA 0).setE 0)
        refine ⟨_, results12 _ _ w.heap.size (w.heap.size + 1) (w.heap.size + 2) cs (.int .i64 0) (.int .i64 0) rfl rfl rfl HI9.out.xat HSZ.out (Lib.cell_of_heap HI9.out.aat 0) (Lib.cell_of_heap HI9.out.eat 0), ?_⟩
        rw [← HPP.out]
        refine ⟨HI9.out.below, _, by rw [HT2.out], ?_⟩
        rw [HT2.out]
        have h6 := HB6.out
        have hkeep : ∀ k, w6.heap.size < k → k < w7.heap.size → (((w7.setRow w.heap.size cs).setCell ⟨w.heap.size + 1, 0, none⟩ (.int .i64 0)).setCell ⟨w.heap.size + 2, 0, none⟩ (.int .i64 0)).heap[k]? = w7.heap[k]? := fun k h1 h2 =>
          (heap_setCell_other _ _ _ _ (by show k ≠ w.heap.size + 2; omega)).trans ((heap_setCell_other _ _ _ _ (by show k ≠ w.heap.size + 1; omega)).trans (setRow_other _ _ _ _ (by omega)))
        exact ⟨vi, vw, vt, vq, by rw [← HCS.out], (H0.out.keep hkeep).low (by omega), (HQ.out.keep hkeep).low (by omega)⟩
      | cons t r =>
        have HT2 := Lib.hid (show parseP V s.data.toList = (.mk s0 [], placeP s.size (t :: r), 2) by unfold parseP; rw [HT.out]; simp only [HST.out, hln])
        have HM8 := Lib.hid (wrong_24 w4.heap.size s.size 0 (t :: r) _ HP8.out)
        obtain ⟨a8, c8, hp8, _⟩ := HP8.out.row
        have l8 : (w7.setRow w.heap.size cs).cell? ⟨w4.heap.size, 0, none⟩ = some (.slice a8 (t :: r).length c8) := Lib.cell_of_heap hp8 0
        have hgt : (0 : Int) < ((t :: r).length : Int) := by simp
        obtain ⟨m, hm⟩ : ∃ m, (t :: r).length = m := ⟨_, rfl⟩
        rw [hm] at l8 hgt
        clear hp8 hm
        go_wp2_with (refine wpList_store_row (by rfl) 31 _ _ (by rfl) w.heap.size cs (by rfl) (by rfl) 31 z17 HI7.out.xat HS.out (by rw [HSZ.out]; rfl) H1.out ?_)
        refine HM8.out.mono ?_
        clear HM8
        rintro e w8 ⟨rfl, rfl⟩
        unfold stuckE
        simp (config := { zetaDelta := true }) only []
        refine leaves_cons (f := 22) (args := #[.pointer (some ⟨w.heap.size, 0, none⟩), .pointer (some ⟨w.heap.size + 1, 0, none⟩), .pointer (some ⟨w.heap.size + 1 + 1, 0, none⟩)]) (by simp) (by simp [go_sem]) ?_
        refine (catch_22 w.heap.size (w.heap.size + 1) (w.heap.size + 2) _ cs (.int .i64 0) (.int .i64 0) _ HI8.out.xat HSZ.out HI8.out.aat HI8.out.eat (by omega) (by omega) (by omega)).mono ?_
        rintro e u' w9 ⟨rfl, rfl, rfl⟩
        have HI9 := Lib.hid (((HI8.out.setX z17).setA (placeP s.size (t :: r))).setE 2)
        refine ⟨_, results12 _ _ w.heap.size (w.heap.size + 1) (w.heap.size + 2) z17 (.int .i64 (placeP s.size (t :: r))) (.int .i64 2) rfl rfl rfl HI9.out.xat rfl (Lib.cell_of_heap HI9.out.aat 0) (Lib.cell_of_heap HI9.out.eat 0), ?_⟩
        rw [← HPP.out]
        exact ⟨HI9.out.below, _, by rw [HT2.out], by rw [HT2.out]; exact zero_is _ _⟩
end Go.Proofs.YtigicmnngppipaaGreatDoor.Tp
/- Rows that hold the same are equal: texts, items. No condition. -/
namespace Go.Proofs.YtigicmnngppipaaGreatDoor.Tp
open Go.RowKit Lx
set_option maxRecDepth 100000
theorem own_form {w : World} {B e size n : Nat} {v : Value} {xs : List Value} (h : w.ownsRow B e size v n xs) : ∃ a c, v = .slice a n c ∧ (0 < n → ∃ g, a = some ⟨g, 0, none⟩ ∧ g < w.heap.size) := by
  rcases h.2 with ⟨rfl, h0⟩ | ⟨g, cap, cur, rfl, hb, hg, _⟩
  · exact ⟨none, 0, by rw [h0], fun q => by omega⟩
  · exact ⟨_, _, rfl, fun _ => ⟨g, rfl, (Array.getElem?_eq_some_iff.1 hg).1⟩⟩
theorem own_max {w : World} {B e size n : Nat} {v : Value} {xs : List Value} (h : w.ownsRow B e size v n xs) : n ≤ maxLen := by
  rcases h.2 with ⟨_, h0⟩ | ⟨g, cap, cur, _, _, _, h1, h2, _⟩
  · rw [h0]; exact Nat.zero_le _
  · exact Nat.le_trans h1 h2
set_option maxHeartbeats 1000000 in
theorem equal_33 {B1 B2 : Nat} (v1 v2 : Value) (l : List ByteArray) (w : World) (h1 : w.ownsRow B1 9 1 v1 l.length (l.map Value.string)) (h2 : w.ownsRow B2 9 1 v2 l.length (l.map Value.string)) :
    Calls Tryz.prog 33 #[v1, v2] w fun e w' => e = .returned (.bool true) ∧ Below w.heap.size w w' := by
  obtain ⟨a1, c1, rfl, hg1⟩ := own_form h1
  obtain ⟨a2, c2, rfl, hg2⟩ := own_form h2
  have H1 := Lib.hid h1
  have H2 := Lib.hid h2
  have HG1 := Lib.hid hg1
  have HG2 := Lib.hid hg2
  obtain ⟨n, hn⟩ : ∃ n, l.length = n := ⟨_, rfl⟩
  have HN := Lib.hid hn
  have HL : Hid (n ≤ maxLen) := Lib.hid (by rw [← hn]; exact own_max h1)
  rw [hn]
  clear h1 h2 hg1 hg2 hn
  go_enter Tryz.func33, Tryz.ntmps33
  go_wp2_with fail
  go_loopw [13] (fun i wr => ∃ k : Nat, i = .int .i64 k ∧ k ≤ n ∧ Below w.heap.size w wr) (fun i _ => n - (intOf i).toNat)
  case atStart => exact ⟨0, rfl, Nat.zero_le _, Below.refl _ _⟩
  case round =>
    obtain ⟨k, rfl, hkn, hb⟩ := hrel
    have HB := Lib.hid hb
    clear hb
    by_cases hk : k = n
    · subst hk
      clear hkn
      go_wp2_with fail
      go_ret
      exact ⟨rfl, HB.out⟩
    · have hlt : (k : Int) < (n : Int) := by omega
      have hlt2 : k < n := by omega
      have HLT := Lib.hid hlt2
      obtain ⟨g1, rfl, hgl1⟩ := HG1.out (by have := HN.out; omega)
      obtain ⟨g2, rfl, hgl2⟩ := HG2.out (by have := HN.out; omega)
      obtain ⟨t, ht⟩ : ∃ t, l[k]? = some t := ⟨_, List.getElem?_eq_getElem (by have := HN.out; omega)⟩
      have d1 : wr.cell? ⟨g1, k, none⟩ = some (.string t) := (HB.out.cell (p := ⟨g1, k, none⟩) hgl1).trans ((H1.out.cellAt k (by have := HN.out; omega)).trans (by rw [List.getElem?_map, ht]; rfl))
      have d2 : wr.cell? ⟨g2, k, none⟩ = some (.string t) := (HB.out.cell (p := ⟨g2, k, none⟩) hgl2).trans ((H2.out.cellAt k (by have := HN.out; omega)).trans (by rw [List.getElem?_map, ht]; rfl))
      clear hk hkn ht hgl1 hgl2 hlt2
      go_wp2_with fail
      go_quiet (fail)
      go_wp2_with fail
      have w1 : wrap64 ((k : Int) + 1) = ((k + 1 : Nat) : Int) := by have := HL.out; have := HLT.out; unfold maxLen at *; unfold wrap64; omega
      rw [w1]
      exact ⟨⟨k + 1, rfl, HLT.out, Go.below_drewN HB.out _⟩, by have := HLT.out; simp [intOf]; omega⟩
theorem item_cells : ∀ (l : List (ByteArray × ByteArray)) (k : Nat) (i : ByteArray × ByteArray), l[k]? = some i → (itemCells l)[k * 2]? = some (.string i.1) ∧ (itemCells l)[k * 2 + 1]? = some (.string i.2) ∧ k * 2 + 1 < (itemCells l).length
  | [], k, i, h => by simp at h
  | a :: l, 0, i, h => by
    simp at h
    subst h
    exact ⟨rfl, rfl, by simp [itemCells]⟩
  | a :: l, k + 1, i, h => by
    have ih := item_cells l k i (by simpa using h)
    have e : itemCells (a :: l) = .string a.1 :: .string a.2 :: itemCells l := rfl
    rw [e]
    refine ⟨?_, ?_, ?_⟩
    · rw [show (k + 1) * 2 = k * 2 + 1 + 1 by omega]; simpa using ih.1
    · rw [show (k + 1) * 2 + 1 = k * 2 + 1 + 1 + 1 by omega]; simpa using ih.2.1
    · simp; omega
theorem items_len (l : List (ByteArray × ByteArray)) : (itemCells l).length = l.length * 2 := by
  induction l with
  | nil => rfl
  | cons a l ih => simp [itemCells] at *; omega
set_option maxHeartbeats 1000000 in
theorem equal_30 {B1 B2 : Nat} (v1 v2 : Value) (l : List (ByteArray × ByteArray)) (w : World) (h1 : w.ownsRow B1 83 2 v1 l.length (itemCells l)) (h2 : w.ownsRow B2 83 2 v2 l.length (itemCells l)) :
    Calls Tryz.prog 30 #[v1, v2] w fun e w' => e = .returned (.bool true) ∧ Below w.heap.size w w' := by
  obtain ⟨a1, c1, rfl, hg1⟩ := own_form h1
  obtain ⟨a2, c2, rfl, hg2⟩ := own_form h2
  have H1 := Lib.hid h1
  have H2 := Lib.hid h2
  have HG1 := Lib.hid hg1
  have HG2 := Lib.hid hg2
  obtain ⟨n, hn⟩ : ∃ n, l.length = n := ⟨_, rfl⟩
  have HN := Lib.hid hn
  have HL : Hid (n ≤ maxLen) := Lib.hid (by rw [← hn]; exact own_max h1)
  rw [hn]
  clear h1 h2 hg1 hg2 hn
  go_enter Tryz.func30, Tryz.ntmps30
  go_wp2_with fail
  go_loopw [13] (fun i wr => ∃ k : Nat, i = .int .i64 k ∧ k ≤ n ∧ Below w.heap.size w wr) (fun i _ => n - (intOf i).toNat)
  case atStart => exact ⟨0, rfl, Nat.zero_le _, Below.refl _ _⟩
  case round =>
    obtain ⟨k, rfl, hkn, hb⟩ := hrel
    have HB := Lib.hid hb
    clear hb
    by_cases hk : k = n
    · subst hk
      clear hkn
      go_wp2_with fail
      go_ret
      exact ⟨rfl, HB.out⟩
    · have hlt : (k : Int) < (n : Int) := by omega
      have hlt2 : k < n := by omega
      have HLT := Lib.hid hlt2
      obtain ⟨g1, rfl, hgl1⟩ := HG1.out (by have := HN.out; omega)
      obtain ⟨g2, rfl, hgl2⟩ := HG2.out (by have := HN.out; omega)
      obtain ⟨⟨t, u⟩, ht⟩ : ∃ t, l[k]? = some t := ⟨_, List.getElem?_eq_getElem (by have := HN.out; omega)⟩
      obtain ⟨q1, q2, q3⟩ := item_cells l k _ ht
      rw [items_len] at q3
      have d1 : wr.cell? ⟨g1, k * 2, none⟩ = some (.string t) := (HB.out.cell (p := ⟨g1, _, none⟩) hgl1).trans ((H1.out.cellAt (k * 2) (by omega)).trans q1)
      have d2 : wr.cell? ⟨g1, k * 2 + 1, none⟩ = some (.string u) := (HB.out.cell (p := ⟨g1, _, none⟩) hgl1).trans ((H1.out.cellAt (k * 2 + 1) (by omega)).trans q2)
      have e1 : wr.cell? ⟨g2, k * 2, none⟩ = some (.string t) := (HB.out.cell (p := ⟨g2, _, none⟩) hgl2).trans ((H2.out.cellAt (k * 2) (by omega)).trans q1)
      have e2 : wr.cell? ⟨g2, k * 2 + 1, none⟩ = some (.string u) := (HB.out.cell (p := ⟨g2, _, none⟩) hgl2).trans ((H2.out.cellAt (k * 2 + 1) (by omega)).trans q2)
      clear hk hkn ht hgl1 hgl2 hlt2 q1 q2 q3
      go_wp2_with fail
      go_quiet (fail)
      go_wp2_with fail
      have w1 : wrap64 ((k : Int) + 1) = ((k + 1 : Nat) : Int) := by have := HL.out; have := HLT.out; unfold maxLen at *; unfold wrap64; omega
      rw [w1]
      exact ⟨⟨k + 1, rfl, HLT.out, Go.below_drewN HB.out _⟩, by have := HLT.out; simp [intOf]; omega⟩
end Go.Proofs.YtigicmnngppipaaGreatDoor.Tp
