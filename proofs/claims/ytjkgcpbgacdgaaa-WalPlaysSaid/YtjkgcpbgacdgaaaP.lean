/- What DiskKeeps needs beside the contracts: lengths of what comes in, strings of bytes, one file's life. No condition. -/
import Derived.Test.YtjkgcpbgacdgaaaO
import Derived.Laws.BytesString
import Derived.Laws.IdiomStrings
namespace Go.Proofs.Ytjkgcpbgacdgaaa
open Go.RowKit Go.Sort Go.Deep Go.WideShapes Go.ChangeShapes Go.Joins
theorem bulk_lits {H : Type} (k : IntKind) : ∀ zs : List Int, Rows.uptoBulkAll (H := H) (lits k zs) = zs.length
  | [] => rfl
  | z :: r => by
    have := bulk_lits (H := H) k r
    show Rows.uptoBulkAll (DataW.lit (.int k z) :: lits k r) = _
    simp only [Rows.uptoBulkAll, Rows.uptoBulk, this, List.length_cons]
    omega
set_option maxRecDepth 100000 in
theorem bytes_bulk {H : Type} {enc : TypeId × Value → H} {W : World} {a : Option Addr} {len cap : Nat} {d : DataW H} {p : List MemPlace}
    (h : DataW.Trod enc Try.prog W 0 (fun _ => true) true 23 (.slice a len cap) d p) : len ≤ Rows.uptoBulk d := by
  obtain ⟨fuel, hf⟩ := h
  rcases open_ints Try.underlying23 Try.underlying5 (by kernel_rfl) hf with ⟨hcs, _⟩ | ⟨b, l, c, zs, hcs, _, hl, hm, hz, hd, hcell, hwz⟩
  · simp [Value.cells] at hcs
    obtain ⟨rfl, rfl, rfl⟩ := hcs
    exact Nat.zero_le _
  · simp [Value.cells] at hcs
    obtain ⟨rfl, rfl, rfl⟩ := hcs
    simp only [if_true] at hz
    injection hd with hd _
    rw [hd]
    simp only [Rows.uptoBulk, bulk_lits, List.length_take]
    omega
theorem str_of_src {w : World} {S : Nat → Prop} {v : Value} {l : List UInt8} (h : SrcAt w S v (Lib.byteCells l)) : (convert 23 9 v).run Try.prog w = .ok (.string ⟨l.toArray⟩) w := by
  rcases h with ⟨rfl, h0⟩ | ⟨ad, c, rfl, h2, h3, h4, h5, h6⟩
  · have : l = [] := by simpa [Lib.byteCells] using h0
    subst this
    rw [run_convert_bytes_string w 23 9 5 none 0 0 Try.underlying23 Try.underlying5 Try.underlying9]
    rfl
  · rw [Lib.byteCells_length]
    refine run_convert_bytes_back w 23 9 5 ad c l Try.underlying23 Try.underlying5 Try.underlying9 fun j hj => ?_
    rw [h5 j (.int .u8 (l[j]).toNat) (by simp [Lib.byteCells, hj])]
theorem str_of_row {w : World} {base n : Nat} {v : Value} {l : List UInt8} (h : w.ownsRow base 5 1 v n (Lib.byteCells l)) (hn : n = l.length) : (convert 23 9 v).run Try.prog w = .ok (.string ⟨l.toArray⟩) w := by
  subst hn
  rcases h.2 with ⟨rfl, h0⟩ | ⟨g, cap, cur, rfl, _⟩
  · have : l = [] := List.length_eq_zero_iff.1 h0
    subst this
    rw [run_convert_bytes_string w 23 9 5 none 0 0 Try.underlying23 Try.underlying5 Try.underlying9]
    rfl
  · refine run_convert_bytes_back w 23 9 5 ⟨g, 0, none⟩ cap l Try.underlying23 Try.underlying5 Try.underlying9 fun j hj => ?_
    have := h.cellAt j (by omega)
    have e : (Addr.add ⟨g, 0, none⟩ j) = ⟨g, j, none⟩ := by unfold Addr.add; split <;> simp_all
    rw [e, this]
    simp [Lib.byteCells, hj]
theorem str_take (w : World) (l : List UInt8) (k : Nat) (hk : k ≤ l.length) : (Instr.slice 9 (.string ⟨l.toArray⟩) none (some (.int .i64 (k : Int))) none).run Try.prog w = .ok (.string ⟨(l.take k).toArray⟩) w := by
  have h1 : ¬ ((l.length : Nat) : Int) < k := by omega
  have hs : (⟨l.toArray⟩ : ByteArray).size = l.length := by simp [ByteArray.size]
  simp [Instr.slice, Instr.sliceBounds, Instr.sliceBound, asIntOf, go_sem, hs]
  rw [if_pos hk]
  congr 2
  apply ByteArray.ext
  simp [ByteArray.data_extract]
theorem str_app (l m : List UInt8) : (⟨l.toArray⟩ : ByteArray) ++ ⟨m.toArray⟩ = ⟨(l ++ m).toArray⟩ := by
  apply ByteArray.ext
  simp
theorem app_bad {L L' : List Ent} {room : Int} {s : ByteArray} {xs : List Value} {j : Nat} {err : Int} (hb : nameB s.data.toList = false) (hsays : AppSays L room (-1) false s xs L' j err) : L' = L ∧ err = 1 ∧ apF (-1) false s = -1 ∧ apD (-1) false s = false := by
  refine ⟨?_, ?_, by simp [apF, hb], by simp [apD, hb]⟩
  · rcases hsays with ⟨h, _⟩ | ⟨_, _, h, _⟩ | ⟨_, h1, _⟩ | ⟨_, h1, _⟩
    · cases h
    · exact h
    · rw [hb] at h1; cases h1
    · rw [hb] at h1; cases h1
  · rcases hsays with ⟨h, _⟩ | ⟨_, _, _, _, h⟩ | ⟨_, h1, _⟩ | ⟨_, h1, _⟩
    · cases h
    · exact h
    · rw [hb] at h1; cases h1
    · rw [hb] at h1; cases h1
theorem app_good {L L' : List Ent} {room : Int} {s : ByteArray} {xs : List Value} {j : Nat} {err : Int} (hb : nameB s.data.toList = true) (hfit : (lens L : Int) + xs.length ≤ room) (hsays : AppSays L room (-1) false s xs L' j err) :
    err = 0 ∧ (∃ f v, L' = addE L s f v xs) ∧ apF (-1) false s = -1 ∧ apD (-1) false s = false := by
  have h8 : apF (-1) false s = -1 ∧ apD (-1) false s = false := ⟨by simp [apF, hb, opF]; decide, by simp [apD, hb, opD]⟩
  rcases hsays with ⟨h, _⟩ | ⟨_, h1, _⟩ | ⟨_, _, h1, _⟩ | ⟨_, _, _, hj, he, f, v, hL⟩
  · cases h
  · rw [hb] at h1; cases h1
  · exact absurd rfl h1
  · have hjl : j = xs.length := by rw [hj]; unfold appN; omega
    subst hjl
    rw [List.take_length] at hL
    exact ⟨by rw [he, if_neg (by omega)], ⟨f, v, hL⟩, h8⟩
theorem add_nil (s : ByteArray) (f : Nat) (v : Value) (xs : List Value) : addE [] s f v xs = [⟨s, f, v, xs, 0⟩] := rfl
theorem add_one (e : Ent) (f : Nat) (v : Value) (xs : List Value) : addE [e] e.name f v xs = [⟨e.name, e.f, v, e.bs ++ xs, e.syn⟩] := by
  unfold addE
  rw [look_one e e.name rfl]
  simp [setF]
theorem sync_one (e : Ent) : chE [e] (-1) false e.name = 0 ∧ syncL [e] (-1) false e.name = [⟨e.name, e.f, e.v, e.bs, e.bs.length⟩] ∧ chF [e] (-1) false e.name = -1 ∧ chD [e] (-1) false e.name = false := by
  have hl := look_one e e.name rfl
  have hg : getE [e] false e.name = (some e, 0) := by simp [getE, hl]
  have hc : chE [e] (-1) false e.name = 0 := by simp [chE, hg, opE]
  refine ⟨hc, ?_, by simp [chF, hg, opF]; decide, by simp [chD, hg, opD]⟩
  unfold syncL
  rw [if_pos hc, hl]
  simp [setF]
theorem sync_nil (s : ByteArray) : chE [] (-1) false s = 6 ∧ syncL [] (-1) false s = [] ∧ chF [] (-1) false s = -1 ∧ chD [] (-1) false s = false := by
  refine ⟨rfl, ?_, rfl, rfl⟩
  rfl
theorem nameB_len {s : ByteArray} (h : nameB s.data.toList = true) : s.size ≤ 64 := by
  unfold nameB at h
  simp at h
  exact h.2.2
end Go.Proofs.Ytjkgcpbgacdgaaa
