/- The table of maps holds the last value of each key and each time. No condition. -/
import Derived.Test.YtblpjhgbckfaeaaI
import Derived.Test.YtblpjhgbckfaeaaA
namespace Go.Proofs.Ytblpjhgbckfaeaa
open Go.RowKit Go.WideMaps
abbrev Ky := ByteArray × ByteArray
abbrev Tp := Tr Ky PV
theorem lookT_set (L : List TE) (s f : ByteArray) (P : List (Int × PV)) (s' f' : ByteArray) : lookT (setT L s f P) s' f' = (lookT L s' f').map fun x => if isT s f x then ⟨x.se, x.fi, x.b, P⟩ else x := by
  unfold lookT setT
  rw [List.find?_map]
  congr 1
  congr 1
  funext x
  simp only [Function.comp]
  split <;> rfl
theorem lookT_ins (x : TE) : ∀ (L : List TE), (∀ y ∈ L, ¬ (y.se = x.se ∧ y.fi = x.fi)) → ∀ s f, lookT (insT x L) s f = if x.se = s ∧ x.fi = f then some x else lookT L s f
  | [], _, s, f => by
    unfold lookT insT
    by_cases h : x.se = s ∧ x.fi = f
    · rw [if_pos h, List.find?_cons]
      have : isT s f x = true := decide_eq_true h
      rw [this]
    · rw [if_neg h, List.find?_cons]
      have : isT s f x = false := decide_eq_false h
      rw [this]
  | y :: r, hP, s, f => by
    have hy := hP y (List.mem_cons_self ..)
    unfold insT
    split
    · unfold lookT
      by_cases h : x.se = s ∧ x.fi = f
      · rw [if_pos h, List.find?_cons]
        have : isT s f x = true := decide_eq_true h
        rw [this]
      · rw [if_neg h, List.find?_cons]
        have : isT s f x = false := decide_eq_false h
        rw [this]
    · have ih := lookT_ins x r (fun p hp => hP p (List.mem_cons_of_mem _ hp)) s f
      unfold lookT at ih ⊢
      rw [List.find?_cons, List.find?_cons]
      by_cases h : y.se = s ∧ y.fi = f
      · have hb : isT s f y = true := decide_eq_true h
        rw [hb]
        rw [if_neg (fun e => hy ⟨h.1.trans e.1.symm, h.2.trans e.2.symm⟩)]
      · have hb : isT s f y = false := decide_eq_false h
        rw [hb]
        exact ih
/-- What the table has is the last of what came. -/
def TabOf (L : List TE) (T : List Tp) : Prop := ∀ s f t, lastV T (s, f) t = (lookT L s f).bind fun x => lookP x.pts t
theorem tabOf_nil : TabOf [] [] := fun _ _ _ => rfl
theorem lastV_one (s f : ByteArray) (t : Int) (v : PV) (T : List Tp) (s' f' : ByteArray) (t' : Int) : lastV (T ++ [⟨(s, f), t, v⟩]) (s', f') t' = if s = s' ∧ f = f' ∧ t = t' then some v else lastV T (s', f') t' := by
  rw [lastV_append]
  simp only [lastV, Option.none_or, Prod.mk.injEq]
  by_cases h : s = s' ∧ f = f' ∧ t = t'
  · rw [if_pos h, if_pos ⟨⟨h.1, h.2.1⟩, h.2.2⟩]; rfl
  · rw [if_neg h, if_neg (fun e => h ⟨e.1.1, e.1.2, e.2⟩), Option.none_or]
theorem TabOf.put {L : List TE} {T : List Tp} (h : TabOf L T) {s f : ByteArray} {x : TE} (hl : lookT L s f = some x) (t : Int) (v : PV) : TabOf (setT L s f (putP x.pts t v)) (T ++ [⟨(s, f), t, v⟩]) := fun s' f' t' => by
  obtain ⟨_, hxs, hxf⟩ := lookT_mem hl
  rw [lastV_one, lookT_set, h s' f' t']
  by_cases hk : s = s' ∧ f = f'
  · obtain ⟨rfl, rfl⟩ := hk
    rw [hl]
    have hx : isT s f x = true := decide_eq_true ⟨hxs, hxf⟩
    simp only [Option.map_some, Option.bind_some, hx, if_true]
    rw [lookP_put]
    by_cases ht : t = t'
    · rw [if_pos (by simp [ht]), if_pos ht.symm]
    · rw [if_neg (by simp [ht]), if_neg (fun e => ht e.symm)]
  · rw [if_neg (fun e => hk ⟨e.1, e.2.1⟩)]
    cases hl2 : lookT L s' f' with
    | none => rfl
    | some y =>
      obtain ⟨_, hys, hyf⟩ := lookT_mem hl2
      have hy : isT s f y = false := decide_eq_false fun e => hk ⟨e.1.symm.trans hys, e.2.symm.trans hyf⟩
      simp only [Option.map_some, Option.bind_some, hy, Bool.false_eq_true, if_false]
/-- A new key has nothing yet. -/
theorem TabOf.insert {L : List TE} {T : List Tp} (h : TabOf L T) {s f : ByteArray} (hl : lookT L s f = none) (b : Nat) : TabOf (insT ⟨s, f, b, []⟩ L) T ∧ lookT (insT ⟨s, f, b, []⟩ L) s f = some ⟨s, f, b, []⟩ := by
  have hi := lookT_ins ⟨s, f, b, []⟩ L (lookT_no hl)
  refine ⟨fun s' f' t' => ?_, by rw [hi, if_pos ⟨rfl, rfl⟩]⟩
  rw [hi, h s' f' t']
  by_cases hk : s = s' ∧ f = f'
  · obtain ⟨rfl, rfl⟩ := hk
    rw [if_pos ⟨rfl, rfl⟩, hl]
    rfl
  · rw [if_neg hk]
end Go.Proofs.Ytblpjhgbckfaeaa
