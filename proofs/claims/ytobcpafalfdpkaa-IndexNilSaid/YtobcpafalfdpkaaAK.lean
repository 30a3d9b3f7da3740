/- What holds of a name's data between calls, and that Add and Drop keep it. No condition. -/
import Derived.Test.YtobcpafalfdpkaaAJ
import Derived.Test.YtobcpafalfdpkaaAH
import Derived.Test.YtobcpafalfdpkaaInj
namespace Go.Proofs.Ytobcpafalfdpkaa
open Go.RowKit Go.WideMaps Go.Sort
structure MeOk (nm : BA) (μ : Me) : Prop where
  full : Full μ
  ser : ∀ p ∈ μ.ss, p.2.sr.ok = true ∧ p.2.sr.txt = p.1 ∧ p.2.sr.name = nm
  at_ : ∀ k v t, At μ k v t ↔ ∃ sv : SV, get μ.ss t = some sv ∧ (k, v) ∈ sv.sr.tags
theorem MeOk.zero (nm : BA) : MeOk nm me0 := by
  refine ⟨full0, fun _ hp => (nomatch hp), fun k v t => ⟨fun h => ?_, fun ⟨_, h, _⟩ => ?_⟩⟩
  · obtain ⟨kb, _, h1, _⟩ := at_open h
    cases h1
  · cases h
theorem MeOk.add {nm : BA} {μ μ' : Me} {s : Sr} {sv : SV} (h : MeOk nm μ) (hs : s.ok = true) (hnm : s.name = nm) (hno : get μ.ss s.txt = none) (hsv : sv.sr = s) (hss : μ'.ss = put μ.ss s.txt sv) (hf : Full μ')
    (hat : ∀ k v t, At μ' k v t ↔ At μ k v t ∨ (t = s.txt ∧ (k, v) ∈ s.tags)) : MeOk nm μ' := by
  refine ⟨hf, fun p hp => ?_, fun k v t => ?_⟩
  · rw [hss] at hp
    rcases put_mem.1 hp with rfl | ⟨hp, _⟩
    · exact ⟨by rw [hsv]; exact hs, by rw [hsv], by rw [hsv]; exact hnm⟩
    · exact h.ser p hp
  · rw [hat, h.at_, hss, get_put]
    by_cases e : s.txt = t
    · subst e
      rw [if_pos rfl, hno]
      constructor
      · rintro (⟨_, h1, _⟩ | ⟨_, h1⟩)
        · cases h1
        · exact ⟨sv, rfl, by rw [hsv]; exact h1⟩
      · rintro ⟨sv', h1, h2⟩
        cases h1
        exact .inr ⟨rfl, by rw [← hsv]; exact h2⟩
    · rw [if_neg e]
      exact ⟨fun h1 => h1.resolve_right fun h2 => e h2.1.symm, .inl⟩
theorem MeOk.drop {nm : BA} {μ μ' : Me} {s : Sr} {sv : SV} (h : MeOk nm μ) (hin : get μ.ss s.txt = some sv) (hsv : sv.sr = s) (hss : μ'.ss = del μ.ss s.txt) (hf : Full μ')
    (hat : ∀ k v t, At μ' k v t ↔ At μ k v t ∧ ¬ (t = s.txt ∧ (k, v) ∈ s.tags)) : MeOk nm μ' := by
  refine ⟨hf, fun p hp => ?_, fun k v t => ?_⟩
  · rw [hss] at hp
    exact h.ser p (del_mem.1 hp).1
  · rw [hat, h.at_, hss, get_del]
    by_cases e : s.txt = t
    · subst e
      rw [if_pos rfl, hin]
      constructor
      · rintro ⟨⟨sv', h1, h2⟩, h3⟩
        cases h1
        exact absurd ⟨rfl, by rw [← hsv]; exact h2⟩ h3
      · rintro ⟨_, h1, _⟩
        cases h1
    · rw [if_neg e]
      exact ⟨fun h1 => h1.1, fun h1 => ⟨h1, fun h2 => e h2.1.symm⟩⟩
/-- The whole index between calls. -/
structure Good (w : World) (ρ : Nat → Option Role) (x m : Nat) (L : List (BA × Nat)) (M : BA → Me) (N : Nat) : Prop where
  idx : IdxAt w ρ x m L M
  few : L.length ≤ N
  me : ∀ nm, MeOk nm (meOf L M nm)
  bd : ∀ nm, BdN (meOf L M nm) (24 * N)
  ss : ∀ nm, (meOf L M nm).ss.length ≤ N
  kd : ∀ nm, (meOf L M nm).kd.length ≤ N
theorem Good.later {w w' : World} {ρ : Nat → Option Role} {x m : Nat} {L : List (BA × Nat)} {M : BA → Me} {N : Nat} (h : Good w ρ x m L M N) (hb : Below w.heap.size w w') : Good w' ρ x m L M N := ⟨h.idx.below hb, h.few, h.me, h.bd, h.ss, h.kd⟩
theorem Good.more {w : World} {ρ : Nat → Option Role} {x m : Nat} {L : List (BA × Nat)} {M : BA → Me} {N N' : Nat} (h : Good w ρ x m L M N) (hn : N ≤ N') : Good w ρ x m L M N' :=
  ⟨h.idx, Nat.le_trans h.few hn, h.me, fun nm => (h.bd nm).more (by omega), fun nm => Nat.le_trans (h.ss nm) hn, fun nm => Nat.le_trans (h.kd nm) hn⟩
theorem MeOk.same {nm : BA} {μ μ' : Me} (h : MeOk nm μ) (hs : SameMe μ μ') : MeOk nm μ' :=
  ⟨full_congr hs.A hs.V hs.X h.full, by rw [hs.ss]; exact h.ser, fun k v t => by rw [at_congr hs.A hs.V hs.X, hs.ss]; exact h.at_ k v t⟩
theorem new_good {w : World} {ρ : Nat → Option Role} {x m : Nat} (h : IdxAt w ρ x m [] (fun _ => me0)) : Good w ρ x m [] (fun _ => me0) 0 :=
  ⟨h, Nat.le_refl _, fun nm => MeOk.zero nm, fun _ => bdn0, fun _ => Nat.le_refl _, fun _ => Nat.le_refl _⟩
end Go.Proofs.Ytobcpafalfdpkaa
/- Add and Drop keep a good index good. Condition: the bounds. -/
namespace Go.Proofs.Ytobcpafalfdpkaa
open Go.RowKit Go.WideMaps Go.Sort
theorem addA_true {μ : Me} {s : Sr} (h : (addA μ s).1 = true) : s.ok = true ∧ get μ.ss s.txt = none := by
  unfold addA at h
  by_cases h1 : s.ok = true
  · rw [if_pos h1] at h
    cases h2 : get μ.ss s.txt with
    | none => exact ⟨h1, rfl⟩
    | some sv => rw [h2] at h; cases h
  · rw [if_neg h1] at h; cases h
def AddGood (w : World) (ρ : Nat → Option Role) (x m : Nat) (L : List (BA × Nat)) (M : BA → Me) (s : Sr) (N : Nat) (e : Ending) (w' : World) : Prop :=
  ∃ ρ' L' M', e = .returned (.tuple #[.bool (addA (meOf L M s.name) s).1, .int .i64 (addA (meOf L M s.name) s).2]) ∧ Good w' ρ' x m L' M' (N + 1) ∧ Step w w' ρ ρ' (fun r => r = .outer ∨ r.of s.name) ∧
    (∀ nm, nm ≠ s.name → meOf L' M' nm = meOf L M nm) ∧ ((addA (meOf L M s.name) s).1 = false → SameMe (meOf L M s.name) (meOf L' M' s.name)) ∧
    ((addA (meOf L M s.name) s).1 = true → ∃ sv : SV, sv.sr = s ∧ (meOf L' M' s.name).ss = put (meOf L M s.name).ss s.txt sv ∧ (meOf L' M' s.name).kd = (meOf L M s.name).kd)
theorem good_other {w' : World} {ρ' : Nat → Option Role} {x m : Nat} {L L' : List (BA × Nat)} {M M' : BA → Me} {N N' : Nat} {nm : BA} (hi : IdxAt w' ρ' x m L' M') (hN : N ≤ N') (hl : L'.length ≤ N')
    (hme : ∀ nm, MeOk nm (meOf L M nm)) (hbd : ∀ nm, BdN (meOf L M nm) (24 * N)) (hss : ∀ nm, (meOf L M nm).ss.length ≤ N) (hkd : ∀ nm, (meOf L M nm).kd.length ≤ N) (ho : ∀ nm', nm' ≠ nm → meOf L' M' nm' = meOf L M nm')
    (h1 : MeOk nm (meOf L' M' nm)) (h2 : BdN (meOf L' M' nm) (24 * N')) (h3 : (meOf L' M' nm).ss.length ≤ N') (h4 : (meOf L' M' nm).kd.length ≤ N') : Good w' ρ' x m L' M' N' := by
  refine ⟨hi, hl, fun n => ?_, fun n => ?_, fun n => ?_, fun n => ?_⟩
  all_goals
    by_cases e : n = nm
    · subst e; assumption
    · rw [ho n e]
      first
        | exact hme n
        | exact (hbd n).more (by omega)
        | exact Nat.le_trans (hss n) hN
        | exact Nat.le_trans (hkd n) hN
theorem SameMe.bd {μ μ' : Me} {N : Nat} (h : SameMe μ μ') (hb : BdN μ N) : BdN μ' N := ⟨by rw [h.A]; exact hb.A, fun k => by rw [h.V]; exact hb.V k, fun k v => by rw [h.X]; exact hb.X k v⟩
theorem add_good {w : World} {ρ : Nat → Option Role} {x m : Nat} {L : List (BA × Nat)} {M : BA → Me} {N : Nat} (h : Good w ρ x m L M N) (hN : N ≤ 3518437208780) {v : Value} {s : Sr} (hv : SrIn w v s) (hf : FreeV ρ v) :
    Calls Try.prog 9 #[.pointer (some ⟨x, 0, none⟩), v] w (AddGood w ρ x m L M s N) := by
  refine (add9 h.idx hv hf (by have := h.few; omega) (N := 24 * N) (by omega) (h.bd _) (by have := h.ss s.name; unfold maxLen; omega) (h.me _).full).mono ?_
  intro e w' hp
  unfold AddPost at hp
  obtain ⟨ρ', L', M', he, hch, hno, hyes⟩ := hp
  refine ⟨ρ', L', M', he, ?_, hch.step, hch.other, hno, fun ht => ?_⟩
  · have hl : L'.length ≤ N + 1 := by have := hch.len; have := h.few; omega
    cases ha : (addA (meOf L M s.name) s).1 with
    | false =>
      have hs := hno ha
      exact good_other hch.idx (by omega) hl h.me h.bd h.ss h.kd hch.other ((h.me _).same hs) ((hs.bd (h.bd _)).more (by omega)) (by rw [hs.ss]; have := h.ss s.name; omega) (by rw [hs.kd]; have := h.kd s.name; omega)
    | true =>
      obtain ⟨sv, hsv, hss, hkd, hfu, hbd, hat⟩ := hyes ha
      obtain ⟨hok, hnone⟩ := addA_true ha
      exact good_other hch.idx (by omega) hl h.me h.bd h.ss h.kd hch.other ((h.me _).add hok rfl hnone hsv hss hfu hat) hbd (by rw [hss]; have := put_len (meOf L M s.name).ss s.txt sv; have := h.ss s.name; omega) (by rw [hkd]; have := h.kd s.name; omega)
  · obtain ⟨sv, hsv, hss, hkd, _⟩ := hyes ht
    exact ⟨sv, hsv, hss, hkd⟩
end Go.Proofs.Ytobcpafalfdpkaa
/- Texts part series; a formed series' tags are each there once. No condition. -/
namespace Go.Proofs.Ytobcpafalfdpkaa
open Go.RowKit Go.WideMaps Go.Sort
theorem list_eq_of_kf {a b : Sr} (hl : a.tags.length = b.tags.length) (h : ∀ i, i < a.tags.length → a.kf i = b.kf i ∧ a.vf i = b.vf i) : a.tags = b.tags := by
  refine List.ext_getElem hl fun i h1 h2 => ?_
  obtain ⟨e1, e2⟩ := h i h1
  obtain ⟨a1, a2⟩ := kf_get (List.getElem?_eq_getElem h1)
  obtain ⟨b1, b2⟩ := kf_get (List.getElem?_eq_getElem h2)
  exact Prod.ext (by rw [← a1, ← b1, e1]) (by rw [← a2, ← b2, e2])
theorem sr_inj {a b : Sr} (h : a.txt = b.txt) : a = b := by
  have ht : textTo a.name a.kf a.vf a.tags.length = textTo b.name b.kf b.vf b.tags.length := by
    unfold Sr.txt at h
    have := congrArg (fun t : BA => t.data.toList) h
    simpa using this
  have hs := same_of_text ht
  simp only [sameB, Bool.and_eq_true, beq_iff_eq, decide_eq_true_eq, List.all_eq_true, ByteArray.toList_eq] at hs
  obtain ⟨e1, e2, e3⟩ := hs
  have hn : a.name = b.name := ba_eq e1
  have hg : a.tags = b.tags := list_eq_of_kf e2 fun i hi => by
    have := e3 i (by simpa using hi)
    simp only [tagEq, Bool.and_eq_true, beq_iff_eq, ByteArray.toList_eq] at this
    exact ⟨ba_eq this.1, ba_eq this.2⟩
  cases a; cases b
  simp only at hn hg
  rw [hn, hg]
theorem ok_step {s : Sr} (h : s.ok = true) {i : Nat} (hi : i + 1 < s.tags.length) : sLt (s.kf i) (s.kf (i + 1)) := by
  unfold Sr.ok formedB at h
  simp only [Bool.and_eq_true, List.all_eq_true] at h
  have := h.1 (i + 1) (by simpa using hi)
  simp only [stepOk, Bool.and_eq_true, Bool.or_eq_true, decide_eq_true_eq] at this
  exact this.2.2.resolve_left (by omega)
theorem ok_lt {s : Sr} (h : s.ok = true) : ∀ (d i : Nat), i + d + 1 < s.tags.length → sLt (s.kf i) (s.kf (i + d + 1))
  | 0, _, hi => ok_step h hi
  | d + 1, i, hi => sLt_tr (ok_lt h d i (by omega)) (ok_step h (i := i + d + 1) hi)
theorem ok_rising {s : Sr} (h : s.ok = true) : RisingK s.tags := by
  refine List.pairwise_iff_getElem.2 fun i j hi hj hij => ?_
  obtain ⟨a1, _⟩ := kf_get (List.getElem?_eq_getElem hi)
  obtain ⟨b1, _⟩ := kf_get (List.getElem?_eq_getElem hj)
  rw [← a1, ← b1]
  have := ok_lt h (j - i - 1) i (by omega)
  rw [show i + (j - i - 1) + 1 = j by omega] at this
  exact this
theorem ok_nodup {s : Sr} (h : s.ok = true) : s.tags.Nodup := by
  unfold List.Nodup
  refine List.Pairwise.imp (R := fun a b : BA × BA => sLt a.1 b.1) ?_ (ok_rising h)
  intro p q hl e
  rw [e] at hl
  exact sLt_irr _ hl
def DropGood (w : World) (ρ : Nat → Option Role) (x m : Nat) (L : List (BA × Nat)) (M : BA → Me) (s : Sr) (N : Nat) (e : Ending) (w' : World) : Prop :=
  ∃ M', e = .returned (.bool (dropA (meOf L M s.name) s)) ∧ Good w' ρ x m L M' N ∧ Step w w' ρ ρ (fun r => r = .outer ∨ r.of s.name) ∧
    (∀ nm, nm ≠ s.name → meOf L M' nm = meOf L M nm) ∧ (dropA (meOf L M s.name) s = false → SameMe (meOf L M s.name) (meOf L M' s.name)) ∧
    (dropA (meOf L M s.name) s = true → (meOf L M' s.name).ss = del (meOf L M s.name).ss s.txt ∧ (meOf L M' s.name).kd = (meOf L M s.name).kd)
theorem drop_good {w : World} {ρ : Nat → Option Role} {x m : Nat} {L : List (BA × Nat)} {M : BA → Me} {N : Nat} (h : Good w ρ x m L M N) {v : Value} {s : Sr} (hv : SrIn w v s) (hf : FreeV ρ v) :
    Calls Try.prog 17 #[.pointer (some ⟨x, 0, none⟩), v] w (DropGood w ρ x m L M s N) := by
  have hthere : ∀ {sv : SV}, get (meOf L M s.name).ss s.txt = some sv → sv.sr = s := fun hg => sr_inj ((h.me s.name).ser _ (get_some hg)).2.1
  refine (drop17 h.idx hv hf (N := 24 * N) (h.bd _) (h.me _).full fun hok hin => ⟨ok_nodup hok, fun p hp => ?_⟩).mono ?_
  · obtain ⟨sv, hsv⟩ := Option.isSome_iff_exists.1 hin
    exact ((h.me s.name).at_ _ _ _).2 ⟨sv, hsv, by rw [hthere hsv]; exact hp⟩
  intro e w' hp
  unfold DropPost at hp
  obtain ⟨M', he, hch, hno, hyes⟩ := hp
  refine ⟨M', he, ?_, hch.step, hch.other, hno, fun ht => ⟨(hyes ht).1, (hyes ht).2.1⟩⟩
  cases ha : dropA (meOf L M s.name) s with
  | false =>
    have hs := hno ha
    exact good_other hch.idx (Nat.le_refl _) h.few h.me h.bd h.ss h.kd hch.other ((h.me _).same hs) (hs.bd (h.bd _)) (by rw [hs.ss]; exact h.ss _) (by rw [hs.kd]; exact h.kd _)
  | true =>
    obtain ⟨hss, hkd, hfu, hbd, hat⟩ := hyes ha
    have hin : (get (meOf L M s.name).ss s.txt).isSome = true := by
      unfold dropA at ha
      simp only [Bool.and_eq_true] at ha
      exact ha.2
    obtain ⟨sv, hsv⟩ := Option.isSome_iff_exists.1 hin
    exact good_other hch.idx (Nat.le_refl _) h.few h.me h.bd h.ss h.kd hch.other ((h.me _).drop hsv (hthere hsv) hss hfu hat) hbd (by rw [hss]; exact Nat.le_trans (del_len _ _) (h.ss _)) (by rw [hkd]; exact h.kd _)
end Go.Proofs.Ytobcpafalfdpkaa
/- Forget and SetKind keep a good index good. Condition: the bounds. -/
namespace Go.Proofs.Ytobcpafalfdpkaa
open Go.RowKit Go.WideMaps Go.Sort
theorem meOf_del (L : List (BA × Nat)) (M : BA → Me) (nm : BA) : meOf (del L nm) M nm = me0 := by
  unfold meOf
  rw [get_del, if_pos rfl]
def ForgetGood (w : World) (ρ : Nat → Option Role) (x m : Nat) (L : List (BA × Nat)) (M : BA → Me) (nm : BA) (N : Nat) (e : Ending) (w' : World) : Prop :=
  e = .returned (.int .i64 (meOf L M nm).ss.length) ∧ Good w' ρ x m (del L nm) M N ∧ Step w w' ρ ρ (fun r => r = .outer ∨ r.of nm) ∧ (∀ nm', nm' ≠ nm → meOf (del L nm) M nm' = meOf L M nm')
theorem forget_good {w : World} {ρ : Nat → Option Role} {x m : Nat} {L : List (BA × Nat)} {M : BA → Me} {N : Nat} (h : Good w ρ x m L M N) (hN : N ≤ 3518437208780) (nm : BA) (hn : nm.size ≤ maxLen) :
    Calls Try.prog 26 #[.pointer (some ⟨x, 0, none⟩), .string nm] w (ForgetGood w ρ x m L M nm N) := by
  refine (forget26 h.idx nm hn (by have := h.ss nm; unfold maxLen; omega)).mono ?_
  rintro e w' ⟨he, hch⟩
  refine ⟨he, good_other hch.idx (Nat.le_refl _) (Nat.le_trans (del_len _ _) h.few) h.me h.bd h.ss h.kd hch.other ?_ ?_ ?_ ?_, hch.step, hch.other⟩
  · rw [meOf_del]; exact MeOk.zero nm
  · rw [meOf_del]; exact bdn0.more (Nat.zero_le _)
  · rw [meOf_del]; exact Nat.zero_le _
  · rw [meOf_del]; exact Nat.zero_le _
def SetGood (w : World) (ρ : Nat → Option Role) (x m : Nat) (L : List (BA × Nat)) (M : BA → Me) (nm f : BA) (k : Int) (N : Nat) (e : Ending) (w' : World) : Prop :=
  ∃ ρ' L' M', e = .returned (.int .i64 (skE (get (meOf L M nm).kd f) k)) ∧ Good w' ρ' x m L' M' (N + 1) ∧ Step w w' ρ ρ' (fun r => r = .outer ∨ r.of nm) ∧ (∀ nm', nm' ≠ nm → meOf L' M' nm' = meOf L M nm') ∧ (meOf L' M' nm).ss = (meOf L M nm).ss ∧ (meOf L' M' nm).kd = skD (meOf L M nm).kd f k
theorem MeOk.tags {nm : BA} {μ μ' : Me} (h : MeOk nm μ) (hs : SameTags μ μ') : MeOk nm μ' :=
  ⟨full_congr hs.A hs.V hs.X h.full, by rw [hs.ss]; exact h.ser, fun k v t => by rw [at_congr hs.A hs.V hs.X, hs.ss]; exact h.at_ k v t⟩
theorem set_good {w : World} {ρ : Nat → Option Role} {x m : Nat} {L : List (BA × Nat)} {M : BA → Me} {N : Nat} (h : Good w ρ x m L M N) (hN : N ≤ 3518437208780) (nm f : BA) (k : Int) (hn : nm.size ≤ maxLen) (hf : f.size ≤ maxLen) :
    Calls Try.prog 24 #[.pointer (some ⟨x, 0, none⟩), .string nm, .string f, .int .i64 k] w (SetGood w ρ x m L M nm f k N) := by
  refine (setKind24 h.idx nm f k hn hf (by have := h.few; unfold maxLen; omega) (by have := h.kd nm; unfold maxLen; omega)).mono ?_
  intro e w' hp
  unfold SetPost at hp
  obtain ⟨ρ', L', M', he, hch, hs, hkd⟩ := hp
  refine ⟨ρ', L', M', he, good_other hch.idx (Nat.le_add_right _ 1) (by have := hch.len; have := h.few; omega) h.me h.bd h.ss h.kd hch.other ((h.me _).tags hs) ?_ ?_ ?_, hch.step, hch.other, hs.ss, hkd⟩
  · have hb : BdN (meOf L' M' nm) (24 * N) := ⟨by rw [hs.A]; exact (h.bd nm).A, fun k => by rw [hs.V]; exact (h.bd nm).V k, fun k v => by rw [hs.X]; exact (h.bd nm).X k v⟩
    exact hb.more (by omega)
  · rw [hs.ss]; have := h.ss nm; omega
  · rw [hkd]
    unfold skD
    have h1 := h.kd nm
    by_cases e : skE (get (meOf L M nm).kd f) k = 0
    · rw [if_pos e]; have := put_len (meOf L M nm).kd f k; omega
    · rw [if_neg e]; omega
end Go.Proofs.Ytobcpafalfdpkaa
