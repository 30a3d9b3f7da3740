/- A table parted by a mark: the parts add up. No condition. -/
import Derived.Test.YtobcpafalfdpkaaAN
namespace Go.Proofs.Ytobcpafalfdpkaa
open Go.RowKit Go.WideMaps Go.Sort
theorem sum_one {β : Type} [DecidableEq β] (b : β) : ∀ V : List β, V.Nodup → b ∈ V → (V.map fun v => if b = v then 1 else 0).sum = 1
  | [], _, h => nomatch h
  | v :: V, hn, h => by
    rw [List.nodup_cons] at hn
    simp only [List.map_cons, List.sum_cons]
    by_cases e : b = v
    · subst e
      rw [if_pos rfl]
      have : (V.map fun v => if b = v then 1 else 0).sum = 0 := by
        have hz : (V.map fun v => if b = v then 1 else 0) = V.map fun _ => 0 := List.map_congr_left fun v hv => if_neg fun (e : b = v) => hn.1 (by rw [e]; exact hv)
        rw [hz]
        clear hz hn h
        induction V with
        | nil => rfl
        | cons _ _ ih => simpa using ih
      omega
    · rw [if_neg e, sum_one b V hn.2 ((List.mem_cons.1 h).resolve_left e)]
theorem sum_add {β : Type} (f g : β → Nat) : ∀ V : List β, (V.map fun v => f v + g v).sum = (V.map f).sum + (V.map g).sum
  | [] => rfl
  | v :: V => by simp only [List.map_cons, List.sum_cons, sum_add f g V]; omega
theorem sum_zero {β : Type} : ∀ V : List β, (V.map fun _ => 0).sum = 0
  | [] => rfl
  | v :: V => by simp only [List.map_cons, List.sum_cons, sum_zero V]
theorem parts_sum {α β : Type} [DecidableEq β] (f : α → Option β) (V : List β) (hV : V.Nodup) : ∀ L : List α, (∀ a ∈ L, ∀ b, f a = some b → b ∈ V) →
    L.length = (L.filter fun a => (f a).isNone).length + (V.map fun v => (L.filter fun a => decide (f a = some v)).length).sum
  | [], _ => by simp [sum_zero]
  | a :: L, h => by
    have ih := parts_sum f V hV L fun x hx => h x (List.mem_cons_of_mem _ hx)
    cases hf : f a with
    | none =>
      have e1 : ∀ v, ((a :: L).filter fun a => decide (f a = some v)) = L.filter fun a => decide (f a = some v) := fun v => by simp [hf]
      simp only [e1, List.length_cons]
      rw [List.filter_cons, if_pos (by simp [hf]), List.length_cons]
      omega
    | some b =>
      have e1 : ∀ v, ((a :: L).filter fun a => decide (f a = some v)).length = (if b = v then 1 else 0) + (L.filter fun a => decide (f a = some v)).length := fun v => by
        by_cases e : b = v
        · subst e; simp [hf]; omega
        · have : ¬ (some b = some v) := fun h => e (Option.some.inj h)
          simp [hf, e]
      simp only [e1, List.length_cons]
      rw [sum_add, sum_one b V hV (h a (List.mem_cons_self ..) b hf), List.filter_cons, if_neg (by simp [hf])]
      omega
end Go.Proofs.Ytobcpafalfdpkaa
