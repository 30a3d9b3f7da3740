/- What an aggregate's state holds behind k values; take, for every state. No condition. -/
import Derived.Test.YtcpnmpemgkbanaaGreatDoorF
namespace Go.Proofs.YtcpnmpemgkbanaaGreatDoor
open Go.RowKit Go.Sort
def wsum (l : List Int) : Int := l.foldl (fun a v => IntKind.u64.wrap (a + uw v)) 0
def fsum (l : List Int) : Nat := l.foldl (fun a v => fadd a (floatOfInt .f64 v)) 0
def lowL : List Int → Int
  | [] => 0
  | v :: r => r.foldl (fun a v => ltV v a) v
def highL : List Int → Int
  | [] => 0
  | v :: r => r.foldl (fun a v => gtV v a) v
theorem wsum_snoc (l : List Int) (v : Int) : wsum (l ++ [v]) = IntKind.u64.wrap (wsum l + uw v) := by simp [wsum]
theorem fsum_snoc (l : List Int) (v : Int) : fsum (l ++ [v]) = fadd (fsum l) (floatOfInt .f64 v) := by simp [fsum]
theorem lowL_snoc (l : List Int) (v : Int) (h : l ≠ []) : lowL (l ++ [v]) = ltV v (lowL l) := by cases l <;> simp_all [lowL]
theorem highL_snoc (l : List Int) (v : Int) (h : l ≠ []) : highL (l ++ [v]) = gtV v (highL l) := by cases l <;> simp_all [highL]
def inI (v : Int) : Prop := lo63 ≤ v ∧ v ≤ 9223372036854775807
theorem fold_in (f : Int → Int → Int) (hf : ∀ a v, inI a → inI v → inI (f a v)) : ∀ (l : List Int) (a : Int), inI a → (∀ v ∈ l, inI v) → inI (l.foldl f a)
  | [], _, ha, _ => ha
  | v :: r, a, ha, h => fold_in f hf r _ (hf a v ha (h v (by simp))) (fun x hx => h x (by simp [hx]))
theorem lowL_in (l : List Int) (h : ∀ v ∈ l, inI v) (hn : l ≠ []) : inI (lowL l) := by
  cases l with
  | nil => exact absurd rfl hn
  | cons v r => exact fold_in _ (fun a v ha hv => by unfold ltV; split <;> assumption) r v (h v (by simp)) (fun x hx => h x (by simp [hx]))
theorem highL_in (l : List Int) (h : ∀ v ∈ l, inI v) (hn : l ≠ []) : inI (highL l) := by
  cases l with
  | nil => exact absurd rfl hn
  | cons v r => exact fold_in _ (fun a v ha hv => by unfold gtV; split <;> assumption) r v (h v (by simp)) (fun x hx => h x (by simp [hx]))
/-- The state behind the values of l. -/
def StAt (l : List Int) (cs : Array Value) : Prop :=
  ∃ re im, noNaN (Ieee.double.read re) ∧ noNaN (Ieee.double.read im) ∧ noNaN (Ieee.double.read (fsum l)) ∧
    ((l = [] ∧ cs = stA 0 0 0 re im 0 0 0 0) ∨ (l ≠ [] ∧ cs = stA l.length (fsum l) (wsum l) re im 2 (uw (lowL l)) 2 (uw (highL l))))
theorem noNaN0 : noNaN (Ieee.double.read 0) := by rw [show Ieee.double.read 0 = .number false 0 Ieee.double.leastPlace by decide]; trivial
theorem stAt_nil : StAt [] (stA 0 0 0 0 0 0 0 0 0) := ⟨0, 0, noNaN0, noNaN0, noNaN0, .inl ⟨rfl, rfl⟩⟩
theorem floatOf_in (v : Int) (hv : inI v) : isNum (Ieee.double.read (floatOfInt .f64 v)) := floatOf_num v (by unfold inI lo63 at hv; omega)
theorem take_any (w : World) (s : Nat) (l : List Int) (v : Int) (cs : Array Value) (hl : ∀ x ∈ l, inI x) (hv : inI v) (hn : l.length < 4611686018427387904) (hs : w.heap[s]? = some (.cells cs 53 (0, 0))) (h : StAt l cs) :
    Calls Tryz.prog 20 #[.pointer (some ⟨s, 0, none⟩), vInt v] w fun e w' => ∃ cs', StAt (l ++ [v]) cs' ∧ TakePost w s cs' e w' := by
  obtain ⟨re, im, hr, hi, hf, ⟨rfl, rfl⟩ | ⟨hne, rfl⟩⟩ := h
  · refine (take_first w s 0 0 re im v hv hs noNaN0 hr hi).mono fun e w' hp => ⟨_, ?_, hp⟩
    obtain ⟨a1, a2⟩ := stepV_ok 0 re im _ hr hi (floatOf_in v hv) (floatOf_lt v)
    exact ⟨_, _, a1, a2, (fadd_some (x := 0) noNaN0 (floatOf_in v hv)).2, .inr ⟨by simp, rfl⟩⟩
  · have h1 := lowL_in l hl hne
    have h2 := highL_in l hl hne
    have h3 : 1 ≤ l.length := by
      rcases l with _ | ⟨x, r⟩
      · exact absurd rfl hne
      · simp
    obtain ⟨a1, a2⟩ := stepV_ok (l.length % 4) re im _ hr hi (floatOf_in v hv) (floatOf_lt v)
    have key : ∀ lo hi, lo = lowL (l ++ [v]) → hi = highL (l ++ [v]) → StAt (l ++ [v]) (stA (l.length + 1) (fadd (fsum l) (floatOfInt .f64 v)) (IntKind.u64.wrap (wsum l + uw v)) (stepV (l.length % 4) re im (floatOfInt .f64 v)).1 (stepV (l.length % 4) re im (floatOfInt .f64 v)).2 2 (uw lo) 2 (uw hi)) := by
      rintro lo hi rfl rfl
      refine ⟨_, _, a1, a2, by rw [fsum_snoc]; exact (fadd_some hf (floatOf_in v hv)).2, .inr ⟨by simp, ?_⟩⟩
      rw [fsum_snoc, wsum_snoc]
      simp
    rw [lowL_snoc l v hne, highL_snoc l v hne] at key
    unfold ltV gtV at key
    by_cases hlo : v < lowL l
    · by_cases hhi : highL l < v
      · exact (take_next_11 w s l.length _ _ re im _ _ v h3 hn hv h1 h2 hlo hhi hs hf hr hi).mono fun e w' hp => ⟨_, key v v (by rw [if_pos hlo]) (by rw [if_pos hhi]), hp⟩
      · exact (take_next_10 w s l.length _ _ re im _ _ v h3 hn hv h1 h2 hlo hhi hs hf hr hi).mono fun e w' hp => ⟨_, key v _ (by rw [if_pos hlo]) (by rw [if_neg hhi]), hp⟩
    · by_cases hhi : highL l < v
      · exact (take_next_01 w s l.length _ _ re im _ _ v h3 hn hv h1 h2 hlo hhi hs hf hr hi).mono fun e w' hp => ⟨_, key _ v (by rw [if_neg hlo]) (by rw [if_pos hhi]), hp⟩
      · exact (take_next_00 w s l.length _ _ re im _ _ v h3 hn hv h1 h2 hlo hhi hs hf hr hi).mono fun e w' hp => ⟨_, key _ _ (by rw [if_neg hlo]) (by rw [if_neg hhi]), hp⟩
/-- A slice of integers' values. -/
def Vals (w : World) (A : Option Addr) (n : Nat) (zs : List Int) : Prop :=
  ∀ i, i < n → ∃ b off v, A = some ⟨b, off, none⟩ ∧ b < w.heap.size ∧ zs[i]? = some v ∧ w.cell? ⟨b, off + i * 3, none⟩ = some (.int .i64 2) ∧ w.cell? ⟨b, off + i * 3 + 1, none⟩ = some (.int .u64 (uw v)) ∧ w.cell? ⟨b, off + i * 3 + 2, none⟩ = some (.string ⟨#[]⟩)
theorem Vals.later {w w' : World} {A : Option Addr} {n : Nat} {zs : List Int} (h : Vals w A n zs) (hb : Below w.heap.size w w') : Vals w' A n zs := fun i hi => by
  obtain ⟨b, off, v, h1, h2, h3, h4, h5, h6⟩ := h i hi
  exact ⟨b, off, v, h1, Nat.lt_of_lt_of_le h2 hb.size, h3, by rw [← h4]; exact hb.cell h2, by rw [← h5]; exact hb.cell h2, by rw [← h6]; exact hb.cell h2⟩
end Go.Proofs.YtcpnmpemgkbanaaGreatDoor
