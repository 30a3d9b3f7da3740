/- Texts part series; a formed series' tags are each there once. No condition. -/
import Derived.Test.YtobcpafalfdpkaaAL
import Derived.Test.YtobcpafalfdpkaaInj
namespace Go.Proofs.Ytobcpafalfdpkaa
open Go.RowKit Go.WideMaps Go.Sort
theorem list_eq_of_kf {a b : Sr} (hl : a.tags.length = b.tags.length) (h : ∀ i, i < a.tags.length → a.kf i = b.kf i ∧ a.vf i = b.vf i) : a.tags = b.tags := by
  refine List.ext_getElem hl fun i h1 h2 => ?_
  obtain ⟨e1, e2⟩ := h i h1
  obtain ⟨a1, a2⟩ := kf_get (List.getElem?_eq_getElem h1)
  obtain ⟨b1, b2⟩ := kf_get (List.getElem?_eq_getElem h2)
  exact Prod.ext (by rw [← a1, ← b1, e1]) (by rw [← a2, ← b2, e2])
theorem sr_inj {a b : Sr} (h : a.txt = b.txt) : a = b := by
  have ht : textTo a.name a.kf a.vf a.tags.length = textTo b.name b.kf b.vf b.tags.length := by
    unfold Sr.txt at h
    have := congrArg (fun t : BA => t.data.toList) h
    simpa using this
  have hs := same_of_text ht
  simp only [sameB, Bool.and_eq_true, beq_iff_eq, decide_eq_true_eq, List.all_eq_true, ByteArray.toList_eq] at hs
  obtain ⟨e1, e2, e3⟩ := hs
  have hn : a.name = b.name := ba_eq e1
  have hg : a.tags = b.tags := list_eq_of_kf e2 fun i hi => by
    have := e3 i (by simpa using hi)
    simp only [tagEq, Bool.and_eq_true, beq_iff_eq, ByteArray.toList_eq] at this
    exact ⟨ba_eq this.1, ba_eq this.2⟩
  cases a; cases b
  simp only at hn hg
  rw [hn, hg]
theorem ok_step {s : Sr} (h : s.ok = true) {i : Nat} (hi : i + 1 < s.tags.length) : sLt (s.kf i) (s.kf (i + 1)) := by
  unfold Sr.ok formedB at h
  simp only [Bool.and_eq_true, List.all_eq_true] at h
  have := h.1 (i + 1) (by simpa using hi)
  simp only [stepOk, Bool.and_eq_true, Bool.or_eq_true, decide_eq_true_eq] at this
  exact this.2.2.resolve_left (by omega)
theorem ok_lt {s : Sr} (h : s.ok = true) : ∀ (d i : Nat), i + d + 1 < s.tags.length → sLt (s.kf i) (s.kf (i + d + 1))
  | 0, _, hi => ok_step h hi
  | d + 1, i, hi => sLt_tr (ok_lt h d i (by omega)) (ok_step h (i := i + d + 1) hi)
theorem ok_rising {s : Sr} (h : s.ok = true) : RisingK s.tags := by
  refine List.pairwise_iff_getElem.2 fun i j hi hj hij => ?_
  obtain ⟨a1, _⟩ := kf_get (List.getElem?_eq_getElem hi)
  obtain ⟨b1, _⟩ := kf_get (List.getElem?_eq_getElem hj)
  rw [← a1, ← b1]
  have := ok_lt h (j - i - 1) i (by omega)
  rw [show i + (j - i - 1) + 1 = j by omega] at this
  exact this
theorem ok_nodup {s : Sr} (h : s.ok = true) : s.tags.Nodup := by
  unfold List.Nodup
  refine List.Pairwise.imp (R := fun a b : BA × BA => sLt a.1 b.1) ?_ (ok_rising h)
  intro p q hl e
  rw [e] at hl
  exact sLt_irr _ hl
def DropGood (w : World) (ρ : Nat → Option Role) (x m : Nat) (L : List (BA × Nat)) (M : BA → Me) (s : Sr) (N : Nat) (e : Ending) (w' : World) : Prop :=
  ∃ M', e = .returned (.bool (dropA (meOf L M s.name) s)) ∧ Good w' ρ x m L M' N ∧ Step w w' ρ ρ (fun r => r = .outer ∨ r.of s.name) ∧
    (∀ nm, nm ≠ s.name → meOf L M' nm = meOf L M nm) ∧ (dropA (meOf L M s.name) s = false → SameMe (meOf L M s.name) (meOf L M' s.name)) ∧
    (dropA (meOf L M s.name) s = true → (meOf L M' s.name).ss = del (meOf L M s.name).ss s.txt ∧ (meOf L M' s.name).kd = (meOf L M s.name).kd)
theorem drop_good {w : World} {ρ : Nat → Option Role} {x m : Nat} {L : List (BA × Nat)} {M : BA → Me} {N : Nat} (h : Good w ρ x m L M N) {v : Value} {s : Sr} (hv : SrIn w v s) (hf : FreeV ρ v) :
    Calls Try.prog 17 #[.pointer (some ⟨x, 0, none⟩), v] w (DropGood w ρ x m L M s N) := by
  have hthere : ∀ {sv : SV}, get (meOf L M s.name).ss s.txt = some sv → sv.sr = s := fun hg => sr_inj ((h.me s.name).ser _ (get_some hg)).2.1
  refine (drop17 h.idx hv hf (N := 24 * N) (h.bd _) (h.me _).full fun hok hin => ⟨ok_nodup hok, fun p hp => ?_⟩).mono ?_
  · obtain ⟨sv, hsv⟩ := Option.isSome_iff_exists.1 hin
    exact ((h.me s.name).at_ _ _ _).2 ⟨sv, hsv, by rw [hthere hsv]; exact hp⟩
  intro e w' hp
  unfold DropPost at hp
  obtain ⟨M', he, hch, hno, hyes⟩ := hp
  refine ⟨M', he, ?_, hch.step, hch.other, hno, fun ht => ⟨(hyes ht).1, (hyes ht).2.1⟩⟩
  cases ha : dropA (meOf L M s.name) s with
  | false =>
    have hs := hno ha
    exact good_other hch.idx (Nat.le_refl _) h.few h.me h.bd h.ss h.kd hch.other ((h.me _).same hs) (hs.bd (h.bd _)) (by rw [hs.ss]; exact h.ss _) (by rw [hs.kd]; exact h.kd _)
  | true =>
    obtain ⟨hss, hkd, hfu, hbd, hat⟩ := hyes ha
    have hin : (get (meOf L M s.name).ss s.txt).isSome = true := by
      unfold dropA at ha
      simp only [Bool.and_eq_true] at ha
      exact ha.2
    obtain ⟨sv, hsv⟩ := Option.isSome_iff_exists.1 hin
    exact good_other hch.idx (Nat.le_refl _) h.few h.me h.bd h.ss h.kd hch.other ((h.me _).drop hsv (hthere hsv) hss hfu hat) hbd (by rw [hss]; exact Nat.le_trans (del_len _ _) (h.ss _)) (by rw [hkd]; exact h.kd _)
end Go.Proofs.Ytobcpafalfdpkaa
