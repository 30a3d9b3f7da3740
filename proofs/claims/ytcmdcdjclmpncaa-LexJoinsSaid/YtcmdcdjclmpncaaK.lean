/- The scanner's next token. Condition: the text's length. -/
import Derived.Test.YtcmdcdjclmpncaaI
namespace Go.Proofs.Ytcmdcdjclmpncaa
open Go.RowKit
def NextPost (s : ByteArray) (X k : Nat) (w : World) (e : Ending) (w' : World) : Prop :=
  ∃ kind text at_ ok k', e = .returned (.tuple #[.agg #[.int .i64 kind, .string text, .int .i64 at_], .bool ok]) ∧ w'.heap[X]? = some (.cells #[.string s, .int .i64 ((k' : Nat) : Int)] 46 (0, 0)) ∧ w.grownBy w' (some X) ∧ k' ≤ s.size ∧
    NextV ((s.data.toList.drop k).dropWhile blankB) s.size kind text at_ ok k'
theorem results15 (tmps : Array Value) (w : World) (B : Nat) (x y z : Value) (hb : tmps.getD 2 undef = .pointer (some ⟨B, 0, none⟩)) (hx : w.cell? ⟨B, 0, none⟩ = some x) (hy : w.cell? ⟨B, 1, none⟩ = some y) (hz : w.cell? ⟨B, 2, none⟩ = some z) :
    (results Try.f15 tmps).run Try.prog w = .ok (.tuple #[.agg #[x, y, z], tmps.getD 3 undef]) w := by
  have hb' : tmps[2]?.getD undef = .pointer (some ⟨B, 0, none⟩) := by simpa using hb
  simp [results, hb', hx, hy, hz, go_sem]
set_option maxRecDepth 100000 in
set_option maxHeartbeats 1000000 in
theorem next (s : ByteArray) (X k : Nat) (w : World) (hs : s.size ≤ 1048576) (hk : k ≤ s.size) (hX : w.heap[X]? = some (.cells #[.string s, .int .i64 (k : Int)] 46 (0, 0))) :
    Calls Try.prog 15 #[.pointer (some ⟨X, 0, none⟩)] w (NextPost s X k w) := by
  have hXlt : X < w.heap.size := by
    rcases Nat.lt_or_ge X w.heap.size with h' | h'
    · exact h'
    · simp [Array.getElem?_eq_none h'] at hX
  have hw0 : Wd s X w (w.alloc (.cells #[.int .i64 0, .string ⟨#[]⟩, .int .i64 0] 34)) k 0 ⟨#[]⟩ 0 :=
    ⟨(Below.heap_alloc w _ X hXlt).trans hX, heap_alloc_new w _, hXlt, World.grownBy_alloc w _ _⟩
  have HW0 := Lib.hid hw0
  have hret : ∀ a' w', Ret s ((s.data.toList.drop k).dropWhile blankB) X w a' w' → bodyPost Try.prog Try.f15 (NextPost s X k w) .ret a' w' := by
    rintro a' w' ⟨⟨hd, hz, h0, h2⟩, kind, text, at_, ok, k', h3, hw, hk', hv⟩
    refine bodyPost_ret (results15 a'.tmps w' w.heap.size _ _ _ h2 hw.tok.1 hw.tok.2.1 hw.tok.2.2.1) hd ?_
    exact ⟨kind, text, at_, ok, k', by rw [h3], hw.1, hw.2.2.2, hk', hv⟩
  have HRET := Lib.hid hret
  clear hw0 hret hX
  go_enter Try.func15, Try.ntmps15
  go_wp2
  refine wp_scope_labels (JL s ((s.data.toList.drop k).dropWhile blankB) X w) (mu s X) ?_ ?_
  · go_wp2_with fail
    go_step3
    rename_i hK
    refine hK _ _ ?_
    refine beginR s ((s.data.toList.drop k).dropWhile blankB) X w hs _ _ HRET.out _ rfl _ _ (fun _ _ _ h => h.1) ?_
    exact ⟨⟨rfl, rfl, rfl, rfl⟩, rfl, rfl, k, 0, HW0.out, hk, rfl⟩
  · intro l' a' w' hJ
    match l', hJ with
    | 0, hJ => exact ⟨_, rfl, pass0 s _ X w hs _ HRET.out _ rfl a' w' hJ⟩
    | 1, hJ => exact ⟨_, rfl, pass1 s _ X w hs _ HRET.out _ rfl a' w' hJ⟩
    | 2, hJ => exact ⟨_, rfl, pass2 s _ X w hs _ HRET.out _ rfl a' w' hJ⟩
    | 3, hJ => exact ⟨_, rfl, pass3 s _ X w hs _ HRET.out _ rfl a' w' hJ⟩
    | 4, hJ => exact ⟨_, rfl, pass4 s _ X w hs _ HRET.out _ rfl a' w' hJ⟩
    | n + 5, hJ => exact hJ.elim
end Go.Proofs.Ytcmdcdjclmpncaa
