/- Several texts of this proof, laid together. Conditions: as each says. -/
import Derived.Test.YtagiddbfhlokcaaGreatDoorKAA
import Derived.Test.YtagiddbfhlokcaaGreatDoorKAD
import Derived.Lib.AtoiErrMem
import Derived.Test.YtagiddbfhlokcaaGreatDoorKAB
import Derived.Test.YtagiddbfhlokcaaGreatDoorRows
import Derived.Lay
import Derived.MakeChecks
import Derived.Stop.LaidErr
import Derived.Lib.LaidTab
import Derived.ChangeSame
import Derived.ChangeArms
import Derived.Deep.Strs
import Derived.FnData
import Derived.OpenShut
import Derived.WalkKit
import Derived.ProofKit
import Derived.Below
import Derived.WalkLawsBesides
import Derived.WalkSpells
import Derived.BigQuiet
import Derived.Lib.Hide
import Derived.Deep.AppendLies
import Derived.Lib.SmallJoins
import Derived.Deep.RegionHeld
import Derived.OwnWalk
import Derived.Lib.Bytes
import Derived.Deep.RegionLaw
/- Integers, and the whole reader of a value's text: value's Int, Of, Parse. Condition: the text's length, the tables of strconv (for floats). -/
namespace Go.Proofs.YtagiddbfhlokcaaGreatDoor
open Go.RowKit
set_option maxRecDepth 100000
theorem all_take (l : List UInt8) : l.all PF.isDig = (l.dropWhile PF.isDig).isEmpty := (drop_all l).symm
theorem take_all {l : List UInt8} (h : l.dropWhile PF.isDig = []) : l.takeWhile PF.isDig = l := by
  have := List.takeWhile_append_dropWhile (p := PF.isDig) (l := l)
  rw [h, List.append_nil] at this
  exact this
set_option maxHeartbeats 4000000 in
theorem int43 (l : List UInt8) (hl : l.length ≤ 281474976710656) (w : World) {ev : Value} (hv : w.cell? ⟨3, 0, none⟩ = some ev) (hev : ev = .nilIface ∨ ∃ te pe, ev = .iface te pe) :
    Calls Tryz.prog 43 #[.string (bs l)] w fun e w' => e = .returned (.tuple #[.int .i64 (PF.intP l).1, .int .i64 (PF.intP l).2]) ∧ Below w.heap.size w w' := by
  have hbl : (PF.body l).length ≤ 281474976710656 := by
    unfold PF.body
    split
    · rename_i r; simp at hl; omega
    · exact hl
  have M84 := Lib.hid (fun w => minus84 l w)
  have M83 := Lib.hid (fun w => digits83 (PF.body l) hbl w)
  have MR := Lib.hid (fun h w hv => Tryz.strconv_ParseInt_10_at64_range (bs l) (by rw [bs_size]; exact hl) h ev w hv hev)
  have MO := Lib.hid (fun v h w => Tryz.strconv_ParseInt_10_at64_ok (bs l) (by rw [bs_size]; omega) v h w)
  have HV := Lib.hid hv
  clear hev hv
  go_enter Tryz.func43, Tryz.ntmps43
  go_wp2_with fail
  refine (M84.out _).mono ?_
  rintro e w' ⟨rfl, rfl⟩
  go_wp2_with fail
  refine (M83.out _).mono ?_
  rintro e w2 ⟨rfl, hb2⟩
  have HB2 := Lib.hid hb2
  clear hb2
  obtain ⟨n, hn⟩ : ∃ n, ((PF.body l).takeWhile PF.isDig).length = n := ⟨_, rfl⟩
  have HN := Lib.hid hn
  rw [hn]
  have HBL := Lib.hid hbl
  have htl := take_drop_len (PF.body l)
  rw [hn] at htl
  have HTL := Lib.hid htl
  clear hn hbl htl
  rcases list_cases ((PF.body l).dropWhile PF.isDig) with e | ⟨c, t, e⟩
  · have e0 := bs_nil e
    have hnl : n = (PF.body l).length := by have := HTL.out; rw [e] at this; simpa using this
    have hall : (PF.body l).all PF.isDig = true := by rw [all_take, e]; rfl
    clear e
    by_cases h1 : n < 1
    · have h1z : (n : Int) < 1 := by omega
      have HI : Hid (PF.intP l = (0, 2)) := Lib.hid (by unfold PF.intP; rw [if_neg (by omega)])
      clear hnl hall
      go_wp2_with fail
      go_ret2
      exact ⟨by rw [HI.out]; rfl, HB2.out⟩
    · have h1z : ¬((n : Int) < 1) := by omega
      by_cases h2 : 25 < n
      · have h2z : (25 : Int) < n := by omega
        have HI : Hid (PF.intP l = (0, 2)) := Lib.hid (by unfold PF.intP; rw [if_neg (by omega)])
        clear hnl hall
        go_wp2_with fail
        go_ret2
        exact ⟨by rw [HI.out]; rfl, HB2.out⟩
      · have h2z : ¬((25 : Int) < n) := by omega
        have hp := PF.parseInt_eq (l := l) (by omega) hall
        have hi : PF.intP l = if PF.isNeg l then (if PF.numD (PF.body l) ≤ 9223372036854775808 then (-(PF.numD (PF.body l) : Int), 0) else (0, 3)) else (if PF.numD (PF.body l) < 9223372036854775808 then ((PF.numD (PF.body l) : Int), 0) else (0, 3)) := by
          unfold PF.intP; rw [if_pos ⟨by omega, by omega, hall⟩]
        have both : (∃ v, Lib.parseIntB 64 l = .ok v ∧ PF.intP l = (v, 0)) ∨ (Lib.parseIntB 64 l = .range ∧ PF.intP l = (0, 3)) := by
          rw [hp, hi]
          split <;> split
          · exact .inl ⟨_, rfl, rfl⟩
          · exact .inr ⟨rfl, rfl⟩
          · exact .inl ⟨_, rfl, rfl⟩
          · exact .inr ⟨rfl, rfl⟩
        clear hp hi hnl hall
        rcases both with ⟨v, hp, hi⟩ | ⟨hp, hi⟩
        · have HI := Lib.hid hi
          have M := Lib.hid (MO.out v (by rw [bs_list]; exact hp))
          clear hp hi
          go_wp2_with fail
          refine (M.out _).mono ?_
          rintro e w3 ⟨rfl, hw3⟩
          have HB3 : Hid (Below w.heap.size w w3) := Lib.hid (by
            rcases hw3 with rfl | ⟨t, rfl⟩
            · exact HB2.out
            · exact HB2.out.trans ((Lib.bytesWorld_below _ _ _).mono HB2.out.size))
          clear hw3
          go_wp2_with fail
          go_ret2
          exact ⟨by rw [HI.out]; rfl, HB3.out⟩
        · have HI := Lib.hid hi
          have h3 := cell_lt HV.out
          have M := Lib.hid (MR.out (by rw [bs_list]; exact hp) w2 ((HB2.out.cell h3).trans HV.out))
          clear hp hi h3
          go_wp2_with fail
          refine (M.out).mono ?_
          rintro e w3 ⟨N, rfl, _, _, hw3⟩
          have HB3 := Lib.hid (HB2.out.trans (hw3.mono HB2.out.size))
          clear hw3
          go_wp2_with fail
          go_ret2
          exact ⟨by rw [HI.out]; rfl, HB3.out⟩
  · obtain ⟨hsz, hg, hem, h0i, h1i, htl⟩ := bs_head e
    have HI : Hid (PF.intP l = (0, 2)) := Lib.hid (by
      unfold PF.intP; rw [if_neg (by rintro ⟨_, _, h⟩; rw [all_take, e] at h; cases h)])
    clear e htl
    by_cases h1 : n < 1
    · have h1z : (n : Int) < 1 := by omega
      go_wp2_with fail
      go_ret2
      exact ⟨by rw [HI.out]; rfl, HB2.out⟩
    · have h1z : ¬((n : Int) < 1) := by omega
      by_cases h2 : 25 < n
      · have h2z : (25 : Int) < n := by omega
        go_wp2_with fail
        go_ret2
        exact ⟨by rw [HI.out]; rfl, HB2.out⟩
      · have h2z : ¬((25 : Int) < n) := by omega
        go_wp2_with fail
        go_ret2
        exact ⟨by rw [HI.out]; rfl, HB2.out⟩
theorem run55 (b : Nat) (w : World) : (callFunc 55 #[.float .f64 b]).run Tryz.prog w = .ok (.value (.int .u64 b)) w := by
  rw [run_callFunc_extern Tryz.func55 (by kernel_rfl) (by kernel_rfl) (by kernel_rfl) (e := Extern.MathFloatBits.float64bits) (by kernel_rfl)]
  rfl
theorem results1 {F : Func} (hF : F.results = #[.cell 2 53]) {tmps : Array Value} {w2 : World} {B : Nat} {x y z : Value} (hb : tmps.getD 2 undef = .pointer (some ⟨B, 0, none⟩)) (hk : w2.heap[B]? = some (.cells #[x, y, z] 53 (0, 0))) :
    (results F tmps).run Tryz.prog w2 = .ok (.agg #[x, y, z]) w2 := by
  have c0 : w2.cell? ⟨B, 0, none⟩ = some x := Lib.cell_of_heap hk 0
  have c1 : w2.cell? ⟨B, 1, none⟩ = some y := Lib.cell_of_heap hk 1
  have c2 : w2.cell? ⟨B, 2, none⟩ = some z := Lib.cell_of_heap hk 2
  have hb' : tmps[2]?.getD undef = .pointer (some ⟨B, 0, none⟩) := by simpa using hb
  simp [results, hF, hb', c0, c1, c2, go_sem]
theorem results2 {F : Func} (hF : F.results = #[.cell 2 53, .tmp 3]) {tmps : Array Value} {w2 : World} {B : Nat} {x y z : Value} (hb : tmps.getD 2 undef = .pointer (some ⟨B, 0, none⟩)) (hk : w2.heap[B]? = some (.cells #[x, y, z] 53 (0, 0))) :
    (results F tmps).run Tryz.prog w2 = .ok (.tuple #[.agg #[x, y, z], tmps.getD 3 undef]) w2 := by
  have c0 : w2.cell? ⟨B, 0, none⟩ = some x := Lib.cell_of_heap hk 0
  have c1 : w2.cell? ⟨B, 1, none⟩ = some y := Lib.cell_of_heap hk 1
  have c2 : w2.cell? ⟨B, 2, none⟩ = some z := Lib.cell_of_heap hk 2
  have hb' : tmps[2]?.getD undef = .pointer (some ⟨B, 0, none⟩) := by simpa using hb
  simp [results, hF, hb', c0, c1, c2, go_sem]
theorem newest (w : World) (o : Obj) : (w.alloc o).heap[w.heap.size]? = some o := by
  show (w.heap.push _)[w.heap.size]? = _
  rw [Array.getElem?_push_size]
theorem of50 (b : Nat) (w : World) : Calls Tryz.prog 50 #[.float .f64 b] w fun e w' => e = .returned (val 1 b ⟨#[]⟩) ∧ Below w.heap.size w w' := by
  have h55 := run55 b
  go_enter Tryz.func50, Tryz.ntmps50
  go_wp2_with fail
  refine bodyPost_ret (results1 (F := Tryz.f50) rfl rfl (newest _ _)) rfl ?_
  exact ⟨rfl, (Below.refl _ _).alloc (Nat.le_refl _) _⟩
def trues : List (List UInt8) := [[116], [84], [116, 114, 117, 101], [84, 114, 117, 101], [84, 82, 85, 69]]
def falses : List (List UInt8) := [[102], [70], [102, 97, 108, 115, 101], [70, 97, 108, 115, 101], [70, 65, 76, 83, 69]]
/-- A value's text read: the value, and the error's number. -/
def valP (T : Int → Nat × Nat) (F : Nat → Nat) (l : List UInt8) : Value × Int :=
  if l ∈ trues then (val 3 1 ⟨#[]⟩, 0) else if l ∈ falses then (val 3 0 ⟨#[]⟩, 0)
  else if headIs 34 l then unqV (PF.unq l.tail)
  else if Lib.hasSuffix l [105] then (if (PF.intP (Lib.trimSuffix l [105])).2 = 0 then (val 2 (IntKind.wrap .u64 (PF.intP (Lib.trimSuffix l [105])).1) ⟨#[]⟩, 0) else (val 0 0 ⟨#[]⟩, (PF.intP (Lib.trimSuffix l [105])).2))
  else if PF.decB l then (if (PF.atof T F l).2 then (val 0 0 ⟨#[]⟩, 3) else (val 1 (PF.atof T F l).1 ⟨#[]⟩, 0))
  else (val 0 0 ⟨#[]⟩, 2)
theorem cut57 (l : List UInt8) (hl : l.length ≤ 281474976710656) (w : World) : Calls Tryz.prog 57 #[.string (bs l), .string ⟨#[105]⟩] w fun e w' => e = .returned (.tuple #[.string (bs (Lib.trimSuffix l [105])), .bool (Lib.hasSuffix l [105])]) ∧ w = w' := by
  refine (Tryz.strings_CutSuffix (bs l) ⟨#[105]⟩ w (by rw [bs_size]; omega)).mono ?_
  rintro e w' ⟨rfl, h⟩
  refine ⟨?_, h.symm⟩
  rw [bs_list]
  rfl
theorem trim_len (l : List UInt8) : (Lib.trimSuffix l [105]).length ≤ l.length := by
  unfold Lib.trimSuffix
  split <;> simp
theorem resF {w w0 w' : World} (h0 : w.alloc (.cells #[.int .i64 0, .int .u64 0, .string ⟨#[]⟩] 53 (0, 0)) = w0) (h : Below w0.heap.size w0 w') :
    w'.cell? ⟨w.heap.size, 0, none⟩ = some (.int .i64 0) ∧ w'.cell? ⟨w.heap.size, 1, none⟩ = some (.int .u64 0) ∧ w'.cell? ⟨w.heap.size, 2, none⟩ = some (.string ⟨#[]⟩) ∧
    w'.frozen? ⟨w.heap.size, 0, none⟩ = false ∧ w'.frozen? ⟨w.heap.size, 1, none⟩ = false ∧ w'.frozen? ⟨w.heap.size, 2, none⟩ = false ∧ w'.heap[w.heap.size]? = some (.cells #[.int .i64 0, .int .u64 0, .string ⟨#[]⟩] 53 (0, 0)) ∧ Below w.heap.size w w' := by
  subst h0
  apply resFacts
  simp only [World.size_alloc] at h
  exact h
theorem unqV_val (o : Option (List UInt8)) : ∃ k b t n, unqV o = (val k b t, n) := by
  unfold unqV
  split
  · exact ⟨_, _, _, _, rfl⟩
  · split
    · exact ⟨_, _, _, _, rfl⟩
    · exact ⟨_, _, _, _, rfl⟩
set_option maxHeartbeats 8000000 in
theorem parse22 {T : Nat → Nat × Nat} {F : Nat → Nat} {B2 o2 B o : Nat} {S : Nat → ByteArray} (l : List UInt8) (hlen : l.length ≤ 140737488355328) (w : World) (hw : PEnv T F B2 o2 B o S w) {ev : Value} (hv : w.cell? ⟨3, 0, none⟩ = some ev) (hev : ev = .nilIface ∨ ∃ te pe, ev = .iface te pe) :
    Calls Tryz.prog 22 #[.string (bs l)] w fun e w' => e = .returned (.tuple #[(valP (tabF T) F l).1, .int .i64 (valP (tabF T) F l).2]) ∧ Below w.heap.size w w' := by
  by_cases ht : l ∈ trues
  · have HP : Hid (valP (tabF T) F l = (val 3 1 ⟨#[]⟩, 0)) := Lib.hid (by unfold valP; rw [if_pos ht])
    simp only [trues, List.mem_cons, List.not_mem_nil, or_false] at ht
    clear hlen hw hv hev
    rcases ht with hl | hl | hl | hl | hl
    · have t0 : ((bs l).toList == [116]) = true := by rw [bs_toList, hl]; rfl
      clear hl
      go_enter Tryz.func22, Tryz.ntmps22
      go_wp2_with fail
      refine bodyPost_ret (results2 (F := Tryz.f22) rfl rfl (newest _ _)) rfl ?_
      exact ⟨by rw [HP.out]; rfl, (Below.refl _ _).alloc (Nat.le_refl _) _⟩
    · have t0 : ((bs l).toList == [116]) = false := by rw [bs_toList, hl]; rfl
      have t1 : ((bs l).toList == [84]) = true := by rw [bs_toList, hl]; rfl
      clear hl
      go_enter Tryz.func22, Tryz.ntmps22
      go_wp2_with fail
      refine bodyPost_ret (results2 (F := Tryz.f22) rfl rfl (newest _ _)) rfl ?_
      exact ⟨by rw [HP.out]; rfl, (Below.refl _ _).alloc (Nat.le_refl _) _⟩
    · have t0 : ((bs l).toList == [116]) = false := by rw [bs_toList, hl]; rfl
      have t1 : ((bs l).toList == [84]) = false := by rw [bs_toList, hl]; rfl
      have t2 : ((bs l).toList == [116, 114, 117, 101]) = true := by rw [bs_toList, hl]; rfl
      clear hl
      go_enter Tryz.func22, Tryz.ntmps22
      go_wp2_with fail
      refine bodyPost_ret (results2 (F := Tryz.f22) rfl rfl (newest _ _)) rfl ?_
      exact ⟨by rw [HP.out]; rfl, (Below.refl _ _).alloc (Nat.le_refl _) _⟩
    · have t0 : ((bs l).toList == [116]) = false := by rw [bs_toList, hl]; rfl
      have t1 : ((bs l).toList == [84]) = false := by rw [bs_toList, hl]; rfl
      have t2 : ((bs l).toList == [116, 114, 117, 101]) = false := by rw [bs_toList, hl]; rfl
      have t3 : ((bs l).toList == [84, 114, 117, 101]) = true := by rw [bs_toList, hl]; rfl
      clear hl
      go_enter Tryz.func22, Tryz.ntmps22
      go_wp2_with fail
      refine bodyPost_ret (results2 (F := Tryz.f22) rfl rfl (newest _ _)) rfl ?_
      exact ⟨by rw [HP.out]; rfl, (Below.refl _ _).alloc (Nat.le_refl _) _⟩
    · have t0 : ((bs l).toList == [116]) = false := by rw [bs_toList, hl]; rfl
      have t1 : ((bs l).toList == [84]) = false := by rw [bs_toList, hl]; rfl
      have t2 : ((bs l).toList == [116, 114, 117, 101]) = false := by rw [bs_toList, hl]; rfl
      have t3 : ((bs l).toList == [84, 114, 117, 101]) = false := by rw [bs_toList, hl]; rfl
      have t4 : ((bs l).toList == [84, 82, 85, 69]) = true := by rw [bs_toList, hl]; rfl
      clear hl
      go_enter Tryz.func22, Tryz.ntmps22
      go_wp2_with fail
      refine bodyPost_ret (results2 (F := Tryz.f22) rfl rfl (newest _ _)) rfl ?_
      exact ⟨by rw [HP.out]; rfl, (Below.refl _ _).alloc (Nat.le_refl _) _⟩
  · by_cases hf : l ∈ falses
    · have HP : Hid (valP (tabF T) F l = (val 3 0 ⟨#[]⟩, 0)) := Lib.hid (by unfold valP; rw [if_neg ht, if_pos hf])
      simp only [falses, List.mem_cons, List.not_mem_nil, or_false] at hf
      clear hlen hw hv hev ht
      rcases hf with hl | hl | hl | hl | hl
      · have t0 : ((bs l).toList == [116]) = false := by rw [bs_toList, hl]; rfl
        have t1 : ((bs l).toList == [84]) = false := by rw [bs_toList, hl]; rfl
        have t2 : ((bs l).toList == [116, 114, 117, 101]) = false := by rw [bs_toList, hl]; rfl
        have t3 : ((bs l).toList == [84, 114, 117, 101]) = false := by rw [bs_toList, hl]; rfl
        have t4 : ((bs l).toList == [84, 82, 85, 69]) = false := by rw [bs_toList, hl]; rfl
        have t5 : ((bs l).toList == [102]) = true := by rw [bs_toList, hl]; rfl
        clear hl
        go_enter Tryz.func22, Tryz.ntmps22
        go_wp2_with fail
        refine bodyPost_ret (results2 (F := Tryz.f22) rfl rfl (newest _ _)) rfl ?_
        exact ⟨by rw [HP.out]; rfl, (Below.refl _ _).alloc (Nat.le_refl _) _⟩
      · have t0 : ((bs l).toList == [116]) = false := by rw [bs_toList, hl]; rfl
        have t1 : ((bs l).toList == [84]) = false := by rw [bs_toList, hl]; rfl
        have t2 : ((bs l).toList == [116, 114, 117, 101]) = false := by rw [bs_toList, hl]; rfl
        have t3 : ((bs l).toList == [84, 114, 117, 101]) = false := by rw [bs_toList, hl]; rfl
        have t4 : ((bs l).toList == [84, 82, 85, 69]) = false := by rw [bs_toList, hl]; rfl
        have t5 : ((bs l).toList == [102]) = false := by rw [bs_toList, hl]; rfl
        have t6 : ((bs l).toList == [70]) = true := by rw [bs_toList, hl]; rfl
        clear hl
        go_enter Tryz.func22, Tryz.ntmps22
        go_wp2_with fail
        refine bodyPost_ret (results2 (F := Tryz.f22) rfl rfl (newest _ _)) rfl ?_
        exact ⟨by rw [HP.out]; rfl, (Below.refl _ _).alloc (Nat.le_refl _) _⟩
      · have t0 : ((bs l).toList == [116]) = false := by rw [bs_toList, hl]; rfl
        have t1 : ((bs l).toList == [84]) = false := by rw [bs_toList, hl]; rfl
        have t2 : ((bs l).toList == [116, 114, 117, 101]) = false := by rw [bs_toList, hl]; rfl
        have t3 : ((bs l).toList == [84, 114, 117, 101]) = false := by rw [bs_toList, hl]; rfl
        have t4 : ((bs l).toList == [84, 82, 85, 69]) = false := by rw [bs_toList, hl]; rfl
        have t5 : ((bs l).toList == [102]) = false := by rw [bs_toList, hl]; rfl
        have t6 : ((bs l).toList == [70]) = false := by rw [bs_toList, hl]; rfl
        have t7 : ((bs l).toList == [102, 97, 108, 115, 101]) = true := by rw [bs_toList, hl]; rfl
        clear hl
        go_enter Tryz.func22, Tryz.ntmps22
        go_wp2_with fail
        refine bodyPost_ret (results2 (F := Tryz.f22) rfl rfl (newest _ _)) rfl ?_
        exact ⟨by rw [HP.out]; rfl, (Below.refl _ _).alloc (Nat.le_refl _) _⟩
      · have t0 : ((bs l).toList == [116]) = false := by rw [bs_toList, hl]; rfl
        have t1 : ((bs l).toList == [84]) = false := by rw [bs_toList, hl]; rfl
        have t2 : ((bs l).toList == [116, 114, 117, 101]) = false := by rw [bs_toList, hl]; rfl
        have t3 : ((bs l).toList == [84, 114, 117, 101]) = false := by rw [bs_toList, hl]; rfl
        have t4 : ((bs l).toList == [84, 82, 85, 69]) = false := by rw [bs_toList, hl]; rfl
        have t5 : ((bs l).toList == [102]) = false := by rw [bs_toList, hl]; rfl
        have t6 : ((bs l).toList == [70]) = false := by rw [bs_toList, hl]; rfl
        have t7 : ((bs l).toList == [102, 97, 108, 115, 101]) = false := by rw [bs_toList, hl]; rfl
        have t8 : ((bs l).toList == [70, 97, 108, 115, 101]) = true := by rw [bs_toList, hl]; rfl
        clear hl
        go_enter Tryz.func22, Tryz.ntmps22
        go_wp2_with fail
        refine bodyPost_ret (results2 (F := Tryz.f22) rfl rfl (newest _ _)) rfl ?_
        exact ⟨by rw [HP.out]; rfl, (Below.refl _ _).alloc (Nat.le_refl _) _⟩
      · have t0 : ((bs l).toList == [116]) = false := by rw [bs_toList, hl]; rfl
        have t1 : ((bs l).toList == [84]) = false := by rw [bs_toList, hl]; rfl
        have t2 : ((bs l).toList == [116, 114, 117, 101]) = false := by rw [bs_toList, hl]; rfl
        have t3 : ((bs l).toList == [84, 114, 117, 101]) = false := by rw [bs_toList, hl]; rfl
        have t4 : ((bs l).toList == [84, 82, 85, 69]) = false := by rw [bs_toList, hl]; rfl
        have t5 : ((bs l).toList == [102]) = false := by rw [bs_toList, hl]; rfl
        have t6 : ((bs l).toList == [70]) = false := by rw [bs_toList, hl]; rfl
        have t7 : ((bs l).toList == [102, 97, 108, 115, 101]) = false := by rw [bs_toList, hl]; rfl
        have t8 : ((bs l).toList == [70, 97, 108, 115, 101]) = false := by rw [bs_toList, hl]; rfl
        have t9 : ((bs l).toList == [70, 65, 76, 83, 69]) = true := by rw [bs_toList, hl]; rfl
        clear hl
        go_enter Tryz.func22, Tryz.ntmps22
        go_wp2_with fail
        refine bodyPost_ret (results2 (F := Tryz.f22) rfl rfl (newest _ _)) rfl ?_
        exact ⟨by rw [HP.out]; rfl, (Below.refl _ _).alloc (Nat.le_refl _) _⟩
    · have t0 : ((bs l).toList == [116]) = false := by rw [bs_toList, beq_eq_false_iff_ne]; intro e; exact ht (by rw [e]; decide)
      have t1 : ((bs l).toList == [84]) = false := by rw [bs_toList, beq_eq_false_iff_ne]; intro e; exact ht (by rw [e]; decide)
      have t2 : ((bs l).toList == [116, 114, 117, 101]) = false := by rw [bs_toList, beq_eq_false_iff_ne]; intro e; exact ht (by rw [e]; decide)
      have t3 : ((bs l).toList == [84, 114, 117, 101]) = false := by rw [bs_toList, beq_eq_false_iff_ne]; intro e; exact ht (by rw [e]; decide)
      have t4 : ((bs l).toList == [84, 82, 85, 69]) = false := by rw [bs_toList, beq_eq_false_iff_ne]; intro e; exact ht (by rw [e]; decide)
      have t5 : ((bs l).toList == [102]) = false := by rw [bs_toList, beq_eq_false_iff_ne]; intro e; exact hf (by rw [e]; decide)
      have t6 : ((bs l).toList == [70]) = false := by rw [bs_toList, beq_eq_false_iff_ne]; intro e; exact hf (by rw [e]; decide)
      have t7 : ((bs l).toList == [102, 97, 108, 115, 101]) = false := by rw [bs_toList, beq_eq_false_iff_ne]; intro e; exact hf (by rw [e]; decide)
      have t8 : ((bs l).toList == [70, 97, 108, 115, 101]) = false := by rw [bs_toList, beq_eq_false_iff_ne]; intro e; exact hf (by rw [e]; decide)
      have t9 : ((bs l).toList == [70, 65, 76, 83, 69]) = false := by rw [bs_toList, beq_eq_false_iff_ne]; intro e; exact hf (by rw [e]; decide)
      obtain ⟨V, hV⟩ : ∃ V, valP (tabF T) F l = V := ⟨_, rfl⟩
      rw [hV]
      have hv2 := hV
      unfold valP at hv2
      rw [if_neg ht, if_neg hf] at hv2
      have HV := Lib.hid hv2
      obtain ⟨bq, hbq⟩ : ∃ b, headIs 34 l = b := ⟨_, rfl⟩
      have M41 := Lib.hid (fun w => hasP l 34 w)
      rw [hbq] at M41 HV
      have HBQ := Lib.hid hbq
      have HB0 : Hid (Below (w.heap.size + 1) (w.alloc (.cells #[.int .i64 0, .int .u64 0, .string ⟨#[]⟩] 53 (0, 0))) (w.alloc (.cells #[.int .i64 0, .int .u64 0, .string ⟨#[]⟩] 53 (0, 0)))) := Lib.hid (Below.refl _ _)
      have HW := Lib.hid (hw.below ((Below.refl w.heap.size w).alloc (Nat.le_refl _) (.cells #[.int .i64 0, .int .u64 0, .string ⟨#[]⟩] 53 (0, 0))))
      have HE := Lib.hid ((((Below.refl w.heap.size w).alloc (Nat.le_refl _) (.cells #[.int .i64 0, .int .u64 0, .string ⟨#[]⟩] 53 (0, 0))).cell (cell_lt hv)).trans hv)
      obtain ⟨w0, hw0⟩ : ∃ w0, w.alloc (.cells #[.int .i64 0, .int .u64 0, .string ⟨#[]⟩] 53 (0, 0)) = w0 := ⟨_, rfl⟩
      have HW0 := Lib.hid hw0
      have hs0 : w0.heap.size = w.heap.size + 1 := by rw [← hw0]; simp
      have HS0 := Lib.hid hs0
      have HEV := Lib.hid hev
      clear hv2 hV hbq ht hf hw hv hev hs0
      go_enter Tryz.func22, Tryz.ntmps22
      go_wp2_with fail
      rw [hw0] at HB0 HW HE
      clear hw0
      refine (M41.out _).mono ?_
      rintro e w' ⟨rfl, rfl⟩
      cases bq with
      | true =>
        rcases list_cases l with e | ⟨a, r, e⟩
        · rw [e] at HBQ; exact absurd HBQ.out (by decide)
        · rw [if_pos rfl, e] at HV
          have MU := Lib.hid (fun w => unquote56 a r (by rw [e] at hlen; simp at hlen; omega) w)
          rw [← e] at MU
          have HVV : Hid (unqV (PF.unq r) = V) := Lib.hid HV.out
          rw [HVV.out] at MU
          obtain ⟨k, b, t, n, hval⟩ := unqV_val (PF.unq r)
          rw [HVV.out] at hval
          subst hval
          clear e t0 t1 t2 t3 t4 t5 t6 t7 t8 t9
          unfold val at *
          go_wp2_with fail
          refine (MU.out _).mono ?_
          rintro e w2 ⟨rfl, hb2⟩
          have HB2 := Lib.hid hb2
          clear hb2
          obtain ⟨f0, f1, f2, g0, g1, g2, hk, hbw⟩ := resF HW0.out HB2.out
          have HBW := Lib.hid hbw
          have HK := Lib.hid hk
          clear hk hbw
          go_wp2_with fail
          refine bodyPost_ret (results53 (F := Tryz.f22) rfl rfl HK.out) rfl ?_
          exact ⟨by skip; rfl, ((HBW.out.setCell (Nat.le_refl _) _).setCell (Nat.le_refl _) _).setCell (Nat.le_refl _) _⟩
      | false =>
        rw [if_neg (by decide)] at HV
        have M57 := Lib.hid (fun w => cut57 l (by omega) w)
        obtain ⟨u, hu⟩ : ∃ u, Lib.trimSuffix l [105] = u := ⟨_, rfl⟩
        obtain ⟨bi, hbi⟩ : ∃ b, Lib.hasSuffix l [105] = b := ⟨_, rfl⟩
        have hul := trim_len l
        rw [hu] at HV M57 hul
        rw [hbi] at HV M57
        clear t0 t1 t2 t3 t4 t5 t6 t7 t8 t9 hu hbi
        go_wp2_with fail
        refine (M57.out _).mono ?_
        rintro e w' ⟨rfl, rfl⟩
        cases bi with
        | true =>
          rw [if_pos rfl] at HV
          have MI := Lib.hid (int43 u (by omega) w0 HE.out HEV.out)
          obtain ⟨xx, hxx⟩ : ∃ x, PF.intP u = x := ⟨_, rfl⟩
          rw [hxx] at MI HV
          obtain ⟨i, n⟩ := xx
          clear hxx
          simp only at MI HV
          go_wp2_with fail
          refine MI.out.mono ?_
          rintro e w2 ⟨rfl, hb2⟩
          have HB2 := Lib.hid hb2
          clear hb2
          by_cases hn : n = 0
          · rw [if_pos hn] at HV
            have hnb : (n == 0) = true := by rw [hn]; rfl
            clear hn
            obtain ⟨f0, f1, f2, g0, g1, g2, hk, hbw⟩ := resF HW0.out HB2.out
            have HBW := Lib.hid hbw
            have HK := Lib.hid hk
            clear hk hbw
            go_wp2_with fail
            refine bodyPost_ret (results53 (F := Tryz.f22) rfl rfl HK.out) rfl ?_
            exact ⟨by rw [← HV.out]; rfl, ((HBW.out.setCell (Nat.le_refl _) _).setCell (Nat.le_refl _) _).setCell (Nat.le_refl _) _⟩
          · rw [if_neg hn] at HV
            have hnb : (n == 0) = false := by rw [beq_eq_false_iff_ne]; exact hn
            clear hn
            obtain ⟨f0, f1, f2, g0, g1, g2, hk, hbw⟩ := resF HW0.out HB2.out
            have HBW := Lib.hid hbw
            have HK := Lib.hid hk
            clear hk hbw
            go_wp2_with fail
            refine bodyPost_ret (results53 (F := Tryz.f22) rfl rfl HK.out) rfl ?_
            exact ⟨by rw [← HV.out]; rfl, ((HBW.out.setCell (Nat.le_refl _) _).setCell (Nat.le_refl _) _).setCell (Nat.le_refl _) _⟩
        | false =>
          rw [if_neg (by decide)] at HV
          have M58 := Lib.hid (decimal58 l (by omega) w0)
          obtain ⟨bd, hbd⟩ : ∃ b, PF.decB l = b := ⟨_, rfl⟩
          have HBD := Lib.hid hbd
          rw [hbd] at HV M58
          clear hbd
          go_wp2_with fail
          refine M58.out.mono ?_
          rintro e w2 ⟨rfl, hb2⟩
          have HB2 := Lib.hid hb2
          clear hb2
          cases bd with
          | false =>
            rw [if_neg (by decide)] at HV
            obtain ⟨f0, f1, f2, g0, g1, g2, hk, hbw⟩ := resF HW0.out HB2.out
            have HBW := Lib.hid hbw
            have HK := Lib.hid hk
            clear hk hbw
            go_wp2_with fail
            refine bodyPost_ret (results53 (F := Tryz.f22) rfl rfl HK.out) rfl ?_
            exact ⟨by rw [← HV.out]; rfl, ((HBW.out.setCell (Nat.le_refl _) _).setCell (Nat.le_refl _) _).setCell (Nat.le_refl _) _⟩
          | true =>
            rw [if_pos rfl] at HV
            have MP := Lib.hid (parse54 (bs l) (by rw [bs_list]; exact HBD.out) (HW.out.below HB2.out) ((HB2.out.cell (cell_lt HE.out)).trans HE.out) HEV.out)
            rw [bs_list] at MP
            obtain ⟨xx, hxx⟩ : ∃ x, PF.atof (tabF T) F l = x := ⟨_, rfl⟩
            rw [hxx] at MP HV
            obtain ⟨x, ov⟩ := xx
            clear hxx
            simp only at MP HV
            go_wp2_with fail
            refine MP.out.mono ?_
            rintro e w3 ⟨h1, h2, hb3⟩
            have HB3 := Lib.hid (HB2.out.trans (hb3.mono HB2.out.size))
            simp only at h1 h2
            cases ov with
            | true =>
              obtain ⟨N, rfl⟩ := h2 rfl
              clear h1 h2 hb3
              rw [if_pos rfl] at HV
              obtain ⟨f0, f1, f2, g0, g1, g2, hk, hbw⟩ := resF HW0.out HB3.out
              have HBW := Lib.hid hbw
              have HK := Lib.hid hk
              clear hk hbw
              go_wp2_with fail
              refine bodyPost_ret (results53 (F := Tryz.f22) rfl rfl HK.out) rfl ?_
              exact ⟨by rw [← HV.out]; rfl, ((HBW.out.setCell (Nat.le_refl _) _).setCell (Nat.le_refl _) _).setCell (Nat.le_refl _) _⟩
            | false =>
              obtain rfl := h1 rfl
              clear h1 h2 hb3
              rw [if_neg (by decide)] at HV
              go_wp2_with fail
              refine (of50 x _).mono ?_
              rintro e w4 ⟨rfl, hb4⟩
              have HB4 := Lib.hid (HB3.out.trans (hb4.mono HB3.out.size))
              clear hb4
              unfold val at *
              obtain ⟨f0, f1, f2, g0, g1, g2, hk, hbw⟩ := resF HW0.out HB4.out
              have HBW := Lib.hid hbw
              have HK := Lib.hid hk
              clear hk hbw
              go_wp2_with fail
              refine bodyPost_ret (results53 (F := Tryz.f22) rfl rfl HK.out) rfl ?_
              exact ⟨by rw [← HV.out]; rfl, ((HBW.out.setCell (Nat.le_refl _) _).setCell (Nat.le_refl _) _).setCell (Nat.le_refl _) _⟩
end Go.Proofs.YtagiddbfhlokcaaGreatDoor
/- The other package's Whole, Int, Parse. Condition: the text's length; strconv's tables. -/
namespace Go.Proofs.YtagiddbfhlokcaaGreatDoor
open Go.RowKit
set_option maxRecDepth 100000
/-- A number behind perhaps a sign, in 64 bits. -/
def wholeP (l : List UInt8) : Int × Bool :=
  if PF.isNeg l then (if PF.numD (PF.body l) ≤ 9223372036854775808 then (-(PF.numD (PF.body l) : Int), true) else (0, false))
  else (if PF.numD (PF.body l) < 9223372036854775808 then ((PF.numD (PF.body l) : Int), true) else (0, false))
def InWh (b : List UInt8) (lim : Nat) (w : World) (v i : Value) (wr : World) : Prop :=
  ∃ k : Nat, i = .int .i64 (k : Int) ∧ k ≤ b.length ∧ v = .int .u64 (PF.numD (b.take k) : Int) ∧ PF.numD (b.take k) ≤ lim ∧ w = wr
theorem take_next {b : List UInt8} {k : Nat} {c : UInt8} {t : List UInt8} (e : b.drop k = c :: t) : b.take (k + 1) = b.take k ++ [c] := by
  have h := (at_cons e).choose_spec.2.2.2
  have hk : k < b.length := by omega
  have h2 := List.drop_eq_getElem_cons hk
  rw [e] at h2
  injection h2 with h3 _
  rw [List.take_add_one, List.getElem?_eq_getElem hk, ← h3]
  rfl
theorem numD_take_le (b : List UInt8) (k : Nat) : PF.numD (b.take k) ≤ PF.numD b := by
  have := PF.numD_le (b.take k) (b.drop k)
  rwa [List.take_append_drop] at this
theorem wrap_u8_dig {c : UInt8} (h : PF.isDig c = true) : IntKind.wrap .u8 ((c.toNat : Int) - 48) = ((c.toNat - 48 : Nat) : Int) := by
  obtain ⟨h1, h2⟩ := isDig_true h
  have : ((c.toNat : Int) - 48) = ((c.toNat - 48 : Nat) : Int) := by omega
  rw [this]
  obtain ⟨n, hn⟩ : ∃ n, c.toNat - 48 = n := ⟨_, rfl⟩
  have hn9 : n ≤ 9 := by omega
  rw [hn]
  simp [IntKind.wrap, IntKind.signed, IntKind.bits]
  omega
theorem wneg (n : Nat) (h : n ≤ 9223372036854775808) : wrap64 (IntKind.u64.wrap (-(n : Int))) = -(n : Int) := by
  rw [IntKind.wrap_u64]
  unfold wrap64
  omega
theorem wpos (n : Nat) (h : n < 9223372036854775808) : wrap64 (n : Int) = (n : Int) := by
  unfold wrap64
  omega
set_option maxHeartbeats 4000000 in
theorem whole80 (l : List UInt8) (hl : l.length ≤ 281474976710656) (h0 : l ≠ []) (hall : (PF.body l).all PF.isDig = true) (w : World) :
    Calls Tryz.prog 80 #[.string (bs l)] w fun e w' => e = .returned (.tuple #[.int .i64 (wholeP l).1, .bool (wholeP l).2]) ∧ w = w' := by
  obtain ⟨R, hR⟩ : ∃ R, wholeP l = R := ⟨_, rfl⟩
  rw [hR]
  obtain ⟨b, hb⟩ : ∃ b, PF.body l = b := ⟨_, rfl⟩
  obtain ⟨lim, hlim⟩ : ∃ lim : Nat, (if PF.isNeg l then 9223372036854775808 else 9223372036854775807) = lim := ⟨_, rfl⟩
  obtain ⟨bn, hbn⟩ : ∃ bn, PF.isNeg l = bn := ⟨_, rfl⟩
  have hneg := isNeg_head l
  have hbl : b.length ≤ 281474976710656 := by
    rw [← hb]
    unfold PF.body
    split
    · rename_i r; simp at hl; omega
    · exact hl
  unfold wholeP at hR
  rw [hb, hbn] at hR
  rw [hbn] at hlim hneg
  rw [hb] at hall
  have HR := Lib.hid hR
  have HALL := Lib.hid hall
  have HLIM := Lib.hid hlim
  have HB := Lib.hid hb
  have HBN := Lib.hid hbn
  have HNEG := Lib.hid hneg
  clear hR hall hlim hb hneg
  rcases list_cases l with e | ⟨c, t, e⟩
  · exact absurd e h0
  · obtain ⟨hlt, hg, hem, h0i, h1i, htl⟩ := bs_head e
    rw [e] at HNEG
    have HTB : Hid (bn = true → t = b) := Lib.hid (fun h => by rw [← HB.out, e]; have := HNEG.out; rw [h] at this; have h45 := of_decide_eq_true this.symm; rw [h45]; rfl)
    have HLB : Hid (bn = false → l = b) := Lib.hid (fun h => by rw [← HB.out]; exact (PF.body_pos (l := l) (fun r er => by rw [h] at hbn; rw [er] at hbn; cases hbn)).1.symm)
    clear e hbn h0
    go_enter Tryz.func80, Tryz.ntmps80
    have c45 : ((c.toNat : Int) == 45) = bn := by
      have h := HNEG.out
      cases bn with
      | true => exact byte_eq c 45 (by decide) (of_decide_eq_true h.symm)
      | false => exact byte_ne c 45 (by decide) (of_decide_eq_false h.symm)
    go_upto_if 12 with (fail)
    go_cut [0, 4] from 13 to 14 (fun s v w' => s = .string (bs b) ∧ v = .int .u64 (lim : Int) ∧ w = w')
    case first =>
      cases bn with
      | true =>
        obtain rfl := HTB.out rfl
        obtain rfl : 9223372036854775808 = lim := HLIM.out
        go_wp2_with fail
        go_meet
        case rel => exact ⟨rfl, rfl, rfl⟩
      | false =>
        obtain rfl : 9223372036854775807 = lim := HLIM.out
        have HLB2 := Lib.hid (HLB.out rfl)
        go_wp2_with fail
        go_meet
        case rel => exact ⟨by rw [HLB2.out], rfl, rfl⟩
    case rest =>
      obtain ⟨rfl, rfl, rfl⟩ := hcut
      have hlim : lim ≤ 9223372036854775808 := by rw [← HLIM.out]; split <;> omega
      have hlim9 : 9 ≤ lim := by rw [← HLIM.out]; split <;> omega
      clear hlt hg hem h0i h1i htl HTB HLB HNEG c45
      go_wp2_with fail
      go_loopw [6, 7] (fun v i wr => InWh b lim w v i wr) (fun _ i => fun _ => up b.length i)
      case atStart => exact ⟨0, rfl, by omega, rfl, by rw [List.take_zero]; show 0 ≤ lim; omega, rfl⟩
      case round =>
        obtain ⟨k, rfl, hk, rfl, hn, rfl⟩ := hrel
        obtain ⟨n, hnn⟩ : ∃ n, PF.numD (b.take k) = n := ⟨_, rfl⟩
        rw [hnn] at hn ⊢
        have HNN := Lib.hid hnn
        clear hnn
        rcases list_cases (b.drop k) with e | ⟨c, t, e⟩
        · have h1 := (at_nil hk e).1
          have HN2 : Hid (PF.numD b = n) := Lib.hid (by
            rw [← HNN.out]
            have := List.take_append_drop k b
            rw [e, List.append_nil] at this
            rw [this])
          clear e
          cases bn with
          | true =>
            have hlz : lim = 9223372036854775808 := HLIM.out.symm
            have hwn := wneg n (by omega)
            have hr := HR.out
            rw [HN2.out, if_pos rfl, if_pos (by omega)] at hr
            have HR2 := Lib.hid hr
            clear hr hlz
            go_wp2_with fail
            go_ret2
            exact ⟨by rw [← HR2.out]; rfl, rfl⟩
          | false =>
            have hlz : lim = 9223372036854775807 := HLIM.out.symm
            have hwn := wpos n (by omega)
            have hr := HR.out
            rw [HN2.out, if_neg (by decide), if_pos (by omega)] at hr
            have HR2 := Lib.hid hr
            clear hr hlz
            go_wp2_with fail
            go_ret2
            exact ⟨by rw [← HR2.out]; rfl, rfl⟩
        · obtain ⟨hlt, hg, hz, hd, hk1⟩ := at_cons e
          have hdg : PF.isDig c = true := by
            have := HALL.out
            rw [List.all_eq_true] at this
            exact this c (List.mem_of_mem_drop (by rw [e]; exact List.mem_cons_self))
          have hw8 := wrap_u8_dig hdg
          obtain ⟨d1, d2⟩ := isDig_true hdg
          have HT := Lib.hid (take_next e)
          obtain ⟨d, hdd⟩ : ∃ d, c.toNat - 48 = d := ⟨_, rfl⟩
          rw [hdd] at hw8
          have hd9 : d ≤ 9 := by omega
          have HN2 : Hid (PF.numD (b.take (k + 1)) = n * 10 + d) := Lib.hid (by rw [HT.out, PF.numD_snoc, HNN.out, hdd])
          clear e hd hdg hdd
          by_cases hov : lim < n * 10 + d
          · have hgt : ((lim : Int) - (d : Int)) / 10 < (n : Int) := by omega
            have HR2 : Hid ((0, false) = R) := Lib.hid (by
              have := numD_take_le b (k + 1)
              rw [HN2.out] at this
              have hl := HLIM.out
              rw [← HR.out]
              cases bn with
              | true => rw [if_pos rfl] at hl ⊢; rw [if_neg (by omega)]
              | false => rw [if_neg (by decide)] at hl ⊢; rw [if_neg (by omega)])
            clear hov
            go_wp2_with fail
            go_ret2
            exact ⟨by rw [← HR2.out]; rfl, rfl⟩
          · have hgt : ¬((lim : Int) - (d : Int)) / 10 < (n : Int) := by omega
            go_wp2_with fail
            go_roundw
            case rel => exact ⟨k + 1, rfl, hk1, by rw [HN2.out]; simp [Int.mul_comm], by rw [HN2.out]; omega, rfl⟩
            case measure => simp [up]; omega
theorem tw_body {l : List UInt8} : (PF.body l).all PF.isDig = decide (p0 l + tw l (p0 l) = l.length) := by
  obtain ⟨h1, h2⟩ := p0_drop l
  rw [← h1, all_take, ← drop_tw]
  have h3 := tw_le l (p0 l) h2
  rw [Bool.eq_iff_iff]
  simp
  omega
theorem tw_len {l : List UInt8} (h : p0 l + tw l (p0 l) = l.length) : (PF.body l).length = tw l (p0 l) := by
  obtain ⟨h1, h2⟩ := p0_drop l
  rw [← h1]
  simp
  omega
theorem intP_whole {l : List UInt8} (h1 : 1 ≤ (PF.body l).length) (h2 : (PF.body l).length ≤ 25) (h3 : (PF.body l).all PF.isDig = true) :
    PF.intP l = if (wholeP l).2 then ((wholeP l).1, 0) else (0, 3) := by
  unfold PF.intP wholeP
  rw [if_pos ⟨h1, h2, h3⟩]
  split <;> split <;> rfl
set_option maxHeartbeats 4000000 in
theorem int37 (l : List UInt8) (hl : l.length ≤ 281474976710656) (w : World) :
    Calls Tryz.prog 37 #[.string (bs l)] w fun e w' => e = .returned (.tuple #[.int .i64 (PF.intP l).1, .int .i64 (PF.intP l).2]) ∧ w = w' := by
  obtain ⟨hp0, hp0l⟩ := p0_drop l
  have hall := tw_body (l := l)
  have hlen := fun h => tw_len (l := l) h
  have hno : (PF.body l).all PF.isDig = false ∨ (PF.body l).length < 1 ∨ 25 < (PF.body l).length → PF.intP l = (0, 2) := by
    intro h
    unfold PF.intP
    rw [if_neg]
    rintro ⟨a, b, c⟩
    rcases h with h | h | h
    · rw [h] at c; cases c
    · omega
    · omega
  have MD := Lib.hid (fun i hi => digits79 l i hl hi)
  have HNEG := Lib.hid (isNeg_head l)
  obtain ⟨q0, hq0⟩ : ∃ q, p0 l = q := ⟨_, rfl⟩
  have HQ0 : Hid ((if PF.isNeg l then 1 else 0) = q0) := Lib.hid hq0
  have htl := tw_le l q0 (by rw [← hq0]; exact hp0l)
  obtain ⟨n, hn⟩ : ∃ n, tw l q0 = n := ⟨_, rfl⟩
  rw [hq0] at hall hlen hp0l
  rw [hn] at hall hlen htl
  have M := Lib.hid (MD.out q0 hp0l w)
  rw [hn] at M
  obtain ⟨q, hq⟩ : ∃ q, q0 + n = q := ⟨_, rfl⟩
  rw [hq] at hall hlen htl M
  have HALL := Lib.hid hall
  have HLEN := Lib.hid hlen
  have HNO := Lib.hid hno
  have HSZ := Lib.hid (bs_size l)
  obtain ⟨bn, hbn⟩ : ∃ b, PF.isNeg l = b := ⟨_, rfl⟩
  rw [hbn] at HQ0 HNEG
  clear hall hlen hno hbn hp0 hq0 hn
  go_enter Tryz.func37, Tryz.ntmps37
  go_upto_region 2 with (fail)
  go_cut [15] from 8 to 15 (fun v w' => v = .bool bn ∧ w = w')
  case first =>
    rcases list_cases l with e | ⟨c, t, e⟩
    · have h0 : (bs l).size = 0 := by rw [bs_size, e]; rfl
      have h0z : ¬((0 : Int) < ((bs l).size : Int)) := by omega
      have hq : bn = false := by rw [HNEG.out, e]; rfl
      subst hq
      clear e h0
      go_wp2_with fail
      go_meet
      case rel => exact ⟨rfl, rfl⟩
    · obtain ⟨hlt, hg, hem, h0i, h1i, htl⟩ := bs_head e
      by_cases h45 : c = 45
      · have c45 : ((c.toNat : Int) == 45) = true := byte_eq c 45 (by decide) h45
        have hq : bn = true := by rw [HNEG.out, e, h45]; rfl
        subst hq
        clear e htl h45
        go_wp2_with fail
        go_meet
        case rel => exact ⟨rfl, rfl⟩
      · have c45 : ((c.toNat : Int) == 45) = false := byte_ne c 45 (by decide) h45
        have hq : bn = false := by rw [HNEG.out, e]; simp [headIs, h45]
        subst hq
        clear e htl h45
        go_wp2_with fail
        go_meet
        case rel => exact ⟨rfl, rfl⟩
  case rest =>
   obtain ⟨rfl, rfl⟩ := hcut
   go_upto_if 15 with (fail)
   go_cut [4] from 16 to 16 (fun v w' => v = .int .i64 (q0 : Int) ∧ w = w')
   case first =>
    cases bn with
    | true =>
      have hqq : q0 = 1 := HQ0.out.symm
      clear M MD HALL HLEN
      subst hqq
      go_wp2_with fail
      go_meet
      case rel => exact ⟨rfl, rfl⟩
    | false =>
      have hqq : q0 = 0 := HQ0.out.symm
      clear M MD HALL HLEN
      subst hqq
      go_wp2_with fail
      go_meet
      case rel => exact ⟨rfl, rfl⟩
   case rest =>
    obtain ⟨rfl, rfl⟩ := hcut
    go_wp2_with fail
    refine M.out.mono ?_
    rintro e w' ⟨rfl, rfl⟩
    by_cases hq1 : q = q0
    · have hqz : ((q : Int) == (q0 : Int)) = true := by simp; omega
      have HI : Hid (PF.intP l = (0, 2)) := Lib.hid (HNO.out (by
        by_cases h : q = l.length
        · have := HLEN.out h; omega
        · left; rw [HALL.out]; simp [h]))
      clear hq1 hq
      go_wp2_with fail
      go_ret2
      exact ⟨by rw [HI.out]; rfl, rfl⟩
    · have hqz : ((q : Int) == (q0 : Int)) = false := by rw [beq_eq_false_iff_ne]; omega
      by_cases hql : q = l.length
      · have hqlz : ((q : Int) != ((bs l).size : Int)) = false := by rw [HSZ.out]; simp; omega
        have hbl := HLEN.out hql
        by_cases h25 : 25 < n
        · have h25z : (25 : Int) < (q : Int) - (q0 : Int) := by omega
          have HI : Hid (PF.intP l = (0, 2)) := Lib.hid (HNO.out (by omega))
          clear hq1 hq hql
          go_wp2_with fail
          go_ret2
          exact ⟨by rw [HI.out]; rfl, rfl⟩
        · have h25z : ¬(25 : Int) < (q : Int) - (q0 : Int) := by omega
          have hall : (PF.body l).all PF.isDig = true := by rw [HALL.out]; simp [hql]
          have HI := Lib.hid (intP_whole (l := l) (by omega) (by omega) hall)
          have MW := Lib.hid (whole80 l hl (by rintro rfl; simp at hql; omega) hall w)
          obtain ⟨x, hx⟩ : ∃ x, wholeP l = x := ⟨_, rfl⟩
          rw [hx] at MW HI
          obtain ⟨v, ok⟩ := x
          simp only at MW HI
          clear hx hq1 hq hql hall
          go_wp2_with fail
          refine MW.out.mono ?_
          rintro e w' ⟨rfl, rfl⟩
          cases ok with
          | true =>
            go_wp2_with fail
            go_ret2
            exact ⟨by rw [HI.out]; rfl, rfl⟩
          | false =>
            go_wp2_with fail
            go_ret2
            exact ⟨by rw [HI.out]; rfl, rfl⟩
      · have hqlz : ((q : Int) != ((bs l).size : Int)) = true := by rw [HSZ.out]; simp; omega
        have HI : Hid (PF.intP l = (0, 2)) := Lib.hid (HNO.out (by left; rw [HALL.out]; simp [hql]))
        clear hq1 hq hql
        go_wp2_with fail
        go_ret2
        exact ⟨by rw [HI.out]; rfl, rfl⟩
end Go.Proofs.YtagiddbfhlokcaaGreatDoor
/- A float less itself: nothing, where it is finite; no number, where it is not. No condition. -/
namespace PF
open Ieee
theorem sum_self (s : Bool) (m : Nat) (i : Int) : (Datum.number s m i).sum (Datum.number s m i).opposite = some (.number false 0 i) := by
  unfold Datum.opposite Datum.sum
  simp only [Int.min_self, Int.sub_self]
  have h : signed s m (0 : Int).toNat + signed (!s) m (0 : Int).toNat = 0 := by
    unfold signed
    cases s <;> simp <;> omega
  rw [h]
  cases s <;> simp
theorem sub_fin {x : Nat} (h : Fin x) : double.sub x x = some 0 := by
  have hs : double.signWeight = 9223372036854775808 := rfl
  have hl : double.leastPlace = -1074 := by decide
  have hb : double.binade = 4503599627370496 := rfl
  have hi : double.infRung = 9218868437227405312 := rfl
  unfold Fin at h
  have hn : ∃ s m i, double.read x = .number s m i := by
    unfold Format.read
    simp only [hs, hl, hb, hi]
    split
    · exact ⟨_, _, _, rfl⟩
    · exact ⟨_, _, _, rfl⟩
  obtain ⟨s, m, i, hr⟩ := hn
  unfold Format.sub
  rw [hr, sum_self]
  rfl
theorem sub_inf {x : Nat} (h : Inf x) : double.sub x x = none := by
  have hs : double.signWeight = 9223372036854775808 := rfl
  have hb : double.binade = 4503599627370496 := rfl
  have hi : double.infRung = 9218868437227405312 := rfl
  unfold Inf at h
  have hr : ∃ s, double.read x = .infinity s := by
    unfold Format.read
    simp only [hs, hb, hi]
    rw [if_neg (by omega), if_neg (by omega), if_pos h]
    exact ⟨_, rfl⟩
  obtain ⟨s, hr⟩ := hr
  unfold Format.sub
  rw [hr]
  cases s <;> rfl
end PF
/- The other package's Parse. Condition: the text's length; strconv's tables. -/
namespace Go.Proofs.YtagiddbfhlokcaaGreatDoor
open Go.RowKit
set_option maxRecDepth 100000
theorem run_sub_fin {x : Nat} (h : PF.Fin x) (w : World) : (binOp BinOp.sub 99 (.float .f64 x) (.float .f64 x)).run Tryz.prog w = .ok (.float .f64 0) w := by
  have hs := PF.sub_fin h
  simp [binOp, go_sem, Op.floatArith, FloatKind.format, hs]
theorem run_sub_inf {x : Nat} (h : PF.Inf x) (w : World) : ∃ y, (binOp BinOp.sub 99 (.float .f64 x) (.float .f64 x)).run Tryz.prog w = .ok (.float .f64 y) w.drew ∧ ∃ s t, Ieee.double.read y = .nan s t := by
  have hs := PF.sub_inf h
  refine ⟨Question.cut (.nanBits .f64 x x) (w.tape w.drawn (.nanBits .f64 x x)), ?_, ?_⟩
  · simp [binOp, go_sem, Op.floatArith, FloatKind.format, hs, Question.forced]
  · generalize w.tape w.drawn (.nanBits .f64 x x) = t
    have h1 : Ieee.double.signWeight = 9223372036854775808 := rfl
    have h2 : Ieee.double.binade = 4503599627370496 := rfl
    have h3 : Ieee.double.infRung = 9218868437227405312 := rfl
    unfold Question.cut Ieee.Format.read
    simp only [h1, h2, h3]
    have h4 : (t / 2) % (2 ^ 52 - 1) < 2 ^ 52 - 1 := Nat.mod_lt _ (by decide)
    have h5 : t % 2 < 2 := Nat.mod_lt _ (by decide)
    generalize (t / 2) % (2 ^ 52 - 1) = b at *
    generalize t % 2 = a at *
    have h6 : (2 : Nat) ^ 52 - 1 = 4503599627370495 := by decide
    have h7 : (2 : Nat) ^ 63 = 9223372036854775808 := by decide
    rw [h6] at h4
    rw [h7]
    rw [if_neg (by omega), if_neg (by omega), if_neg (by omega)]
    exact ⟨_, _, rfl⟩
theorem run_neq_nan {y : Nat} {s : Bool} {t : Nat} (h : Ieee.double.read y = .nan s t) (w : World) : (binOp BinOp.neq 99 (.float .f64 y) (.float .f64 0)).run Tryz.prog w = .ok (.bool true) w := by
  simp [binOp, go_sem, Op.floatCmp, FloatKind.format, Ieee.Format.order, h, Ieee.Datum.order]
theorem run_neq_zero (w : World) : (binOp BinOp.neq 99 (.float .f64 0) (.float .f64 0)).run Tryz.prog w = .ok (.bool false) w := by
  kernel_rfl
theorem results53d {F : Func} (hF : F.results = #[.cell 2 53, .tmp 3]) {tmps : Array Value} {wr : World} {B : Nat} {x y z a b c : Value} (hb : tmps.getD 2 undef = .pointer (some ⟨B, 0, none⟩)) (hk : wr.heap[B]? = some (.cells #[a, b, c] 53 (0, 0))) :
    (results F tmps).run Tryz.prog (((wr.setCell ⟨B, 0, none⟩ x).setCell ⟨B, 1, none⟩ y).setCell ⟨B, 2, none⟩ z).drew = .ok (.tuple #[.agg #[x, y, z], tmps.getD 3 undef]) (((wr.setCell ⟨B, 0, none⟩ x).setCell ⟨B, 1, none⟩ y).setCell ⟨B, 2, none⟩ z).drew := by
  have h1 := heap_setCell_same _ B 0 _ _ x hk
  have h2 := heap_setCell_same _ B 1 _ _ y h1
  have h3 := heap_setCell_same _ B 2 _ _ z h2
  exact results2 hF hb h3
theorem suffix_snoc (m : List UInt8) (z : UInt8) : Lib.hasSuffix (m ++ [z]) [105] = decide (z = 105) ∧ (z = 105 → Lib.trimSuffix (m ++ [z]) [105] = m) := by
  have h1 : Lib.hasSuffix (m ++ [z]) [105] = decide (z = 105) := by
    unfold Lib.hasSuffix List.isSuffixOf
    simp [List.isPrefixOf]
    by_cases h : z = 105
    · simp [h]
    · simp [h, Ne.symm h]
  refine ⟨h1, fun h => ?_⟩
  unfold Lib.trimSuffix
  rw [h1, if_pos (decide_eq_true h)]
  simp
theorem strs_t (w0 : World) (g : Nat) (hg : w0.heap.size = g) : ∀ k (h : k < trues.length), (w0.alloc (.cells #[.string ⟨#[116]⟩, .string ⟨#[84]⟩, .string ⟨#[116, 114, 117, 101]⟩, .string ⟨#[84, 114, 117, 101]⟩, .string ⟨#[84, 82, 85, 69]⟩] 9 (0, 0))).cell? ⟨g, k, none⟩ = some (.string (bs trues[k])) := by
  subst hg
  intro k h
  rw [Lib.cell_of_heap (newest _ _)]
  match k, h with
  | 0, _ => rfl
  | 1, _ => rfl
  | 2, _ => rfl
  | 3, _ => rfl
  | 4, _ => rfl
  | k + 5, h => exact absurd h (by simp [trues])
theorem strs_f (w0 : World) (g : Nat) (hg : w0.heap.size = g) : ∀ k (h : k < falses.length), (w0.alloc (.cells #[.string ⟨#[102]⟩, .string ⟨#[70]⟩, .string ⟨#[102, 97, 108, 115, 101]⟩, .string ⟨#[70, 97, 108, 115, 101]⟩, .string ⟨#[70, 65, 76, 83, 69]⟩] 9 (0, 0))).cell? ⟨g, k, none⟩ = some (.string (bs falses[k])) := by
  subst hg
  intro k h
  rw [Lib.cell_of_heap (newest _ _)]
  match k, h with
  | 0, _ => rfl
  | 1, _ => rfl
  | 2, _ => rfl
  | 3, _ => rfl
  | 4, _ => rfl
  | k + 5, h => exact absurd h (by simp [falses])
set_option maxHeartbeats 8000000 in
theorem parse21 {T : Nat → Nat × Nat} {F : Nat → Nat} {B2 o2 B o : Nat} {S : Nat → ByteArray} (l : List UInt8) (hlen : l.length ≤ 140737488355328) (w : World) (hw : PEnv T F B2 o2 B o S w) {ev : Value} (hv : w.cell? ⟨3, 0, none⟩ = some ev) (hev : ev = .nilIface ∨ ∃ te pe, ev = .iface te pe) :
    Calls Tryz.prog 21 #[.string (bs l)] w fun e w' => e = .returned (.tuple #[(valP (tabF T) F l).1, .int .i64 (valP (tabF T) F l).2]) ∧ Below w.heap.size w w' := by
  obtain ⟨V, hV⟩ : ∃ V, valP (tabF T) F l = V := ⟨_, rfl⟩
  rw [hV]
  unfold valP at hV
  have HV := Lib.hid hV
  have HW := Lib.hid (fun w2 (h : Below w.heap.size w w2) => hw.below h)
  have HE := Lib.hid (fun w2 (h : Below w.heap.size w w2) => (h.cell (cell_lt hv)).trans hv)
  have HEV := Lib.hid hev
  obtain ⟨w0, hw0⟩ : ∃ w0, w.alloc (.cells #[.int .i64 0, .int .u64 0, .string ⟨#[]⟩] 53 (0, 0)) = w0 := ⟨_, rfl⟩
  have HW0 := Lib.hid hw0
  have hs0 : w0.heap.size = w.heap.size + 1 := by rw [← hw0]; simp
  have HS0 := Lib.hid hs0
  clear hV hw hv hev hs0
  go_enter Tryz.func21, Tryz.ntmps21
  go_wp2_with fail
  refine (in51 trues l w0.heap.size _ (strs_t w0 _ rfl) (by decide)).mono ?_
  rintro e w1 ⟨rfl, rfl⟩
  obtain ⟨w1, hw1⟩ : ∃ w1, w0.alloc (.cells #[.string ⟨#[116]⟩, .string ⟨#[84]⟩, .string ⟨#[116, 114, 117, 101]⟩, .string ⟨#[84, 114, 117, 101]⟩, .string ⟨#[84, 82, 85, 69]⟩] 9 (0, 0)) = w1 := ⟨_, rfl⟩
  have HB1 : Hid (Below w0.heap.size w0 w1) := Lib.hid (by rw [← hw1]; exact (Below.refl _ _).alloc (Nat.le_refl _) _)
  rw [hw1]
  clear hw1
  by_cases ht : l ∈ trues
  · rw [if_pos ht] at HV
    have hd : decide (l ∈ trues) = true := decide_eq_true ht
    rw [hd]
    clear ht hd
    obtain ⟨f0, f1, f2, g0, g1, g2, hk, hbw⟩ := resF HW0.out HB1.out
    have HBW := Lib.hid hbw
    have HK := Lib.hid hk
    clear hk hbw
    go_wp2_with fail
    refine bodyPost_ret (results53 (F := Tryz.f21) rfl rfl HK.out) rfl ?_
    exact ⟨by rw [← HV.out]; rfl, ((HBW.out.setCell (Nat.le_refl _) _).setCell (Nat.le_refl _) _).setCell (Nat.le_refl _) _⟩
  · rw [if_neg ht] at HV
    have hd : decide (l ∈ trues) = false := decide_eq_false ht
    rw [hd]
    clear ht hd
    go_wp2_with fail
    refine (in51 falses l w1.heap.size _ (strs_f w1 _ rfl) (by decide)).mono ?_
    rintro e w2 ⟨rfl, rfl⟩
    obtain ⟨w2, hw2⟩ : ∃ w2, w1.alloc (.cells #[.string ⟨#[102]⟩, .string ⟨#[70]⟩, .string ⟨#[102, 97, 108, 115, 101]⟩, .string ⟨#[70, 97, 108, 115, 101]⟩, .string ⟨#[70, 65, 76, 83, 69]⟩] 9 (0, 0)) = w2 := ⟨_, rfl⟩
    have HB2 : Hid (Below w0.heap.size w0 w2) := Lib.hid (by rw [← hw2]; exact HB1.out.alloc HB1.out.size _)
    rw [hw2]
    clear hw2 HB1
    by_cases hf : l ∈ falses
    · rw [if_pos hf] at HV
      have hd : decide (l ∈ falses) = true := decide_eq_true hf
      rw [hd]
      clear hf hd
      obtain ⟨f0, f1, f2, g0, g1, g2, hk, hbw⟩ := resF HW0.out HB2.out
      have HBW := Lib.hid hbw
      have HK := Lib.hid hk
      clear hk hbw
      go_wp2_with fail
      refine bodyPost_ret (results53 (F := Tryz.f21) rfl rfl HK.out) rfl ?_
      exact ⟨by rw [← HV.out]; rfl, ((HBW.out.setCell (Nat.le_refl _) _).setCell (Nat.le_refl _) _).setCell (Nat.le_refl _) _⟩
    · rw [if_neg hf] at HV
      have hd : decide (l ∈ falses) = false := decide_eq_false hf
      rw [hd]
      clear hf hd
      have hbw0 : Below w.heap.size w w2 := by
        have h0 : Below w.heap.size w w0 := by rw [← HW0.out]; exact (Below.refl _ _).alloc (Nat.le_refl _) _
        exact h0.trans (HB2.out.mono h0.size)
      have HBA := Lib.hid hbw0
      clear hbw0
      rcases list_cases l with e | ⟨a, r, e⟩
      · have h0 : (bs l).size = 0 := by rw [bs_size, e]; rfl
        have h0z : ¬((0 : Int) < ((bs l).size : Int)) := by omega
        have h1z : ¬((1 : Int) < ((bs l).size : Int)) := by omega
        have HVE : Hid ((val 0 0 ⟨#[]⟩, 2) = V) := Lib.hid (by rw [← HV.out, e]; rfl)
        have MF := Lib.hid (isFloat53 l (by omega) w2)
        have hdec : PF.decB l = false := by rw [e]; rfl
        rw [hdec] at MF
        clear e h0 hdec
        go_wp2_with fail
        refine MF.out.mono ?_
        rintro e w3 ⟨rfl, rfl⟩
        obtain ⟨f0, f1, f2, g0, g1, g2, hk, hbw⟩ := resF HW0.out HB2.out
        have HBW := Lib.hid hbw
        have HK := Lib.hid hk
        clear hk hbw
        go_wp2_with fail
        refine bodyPost_ret (results53 (F := Tryz.f21) rfl rfl HK.out) rfl ?_
        exact ⟨by rw [← HVE.out]; rfl, ((HBW.out.setCell (Nat.le_refl _) _).setCell (Nat.le_refl _) _).setCell (Nat.le_refl _) _⟩
      · obtain ⟨hlt, hg, hem, h0i, h1i, htl⟩ := bs_head e
        by_cases h34 : a = 34
        · have c34 : ((a.toNat : Int) == 34) = true := byte_eq a 34 (by decide) h34
          have hq : headIs 34 l = true := by rw [e, h34]; rfl
          rw [if_pos hq] at HV
          have HVU : Hid (unqV (PF.unq r) = V) := Lib.hid (by rw [← HV.out, e]; rfl)
          have MU := Lib.hid (unquoted52 r (by rw [e] at hlen; simp at hlen; omega) w2)
          rw [h34] at e
          rw [← e] at MU
          clear e h34 hq htl
          go_wp2_with fail
          refine MU.out.mono ?_
          rintro e w3 ⟨rfl, hb3⟩
          have HB3 := Lib.hid (HB2.out.trans (hb3.mono HB2.out.size))
          clear hb3
          obtain ⟨u, hu⟩ : ∃ u, PF.unq r = u := ⟨_, rfl⟩
          rw [hu] at HVU ⊢
          clear hu
          cases u with
          | none =>
            unfold uqR
            unfold unqV at HVU
            simp only at HVU ⊢
            obtain ⟨f0, f1, f2, g0, g1, g2, hk, hbw⟩ := resF HW0.out HB3.out
            have HBW := Lib.hid hbw
            have HK := Lib.hid hk
            clear hk hbw
            go_wp2_with fail
            refine bodyPost_ret (results53 (F := Tryz.f21) rfl rfl HK.out) rfl ?_
            exact ⟨by rw [← HVU.out]; rfl, ((HBW.out.setCell (Nat.le_refl _) _).setCell (Nat.le_refl _) _).setCell (Nat.le_refl _) _⟩
          | some t =>
            unfold uqR
            unfold unqV at HVU
            simp only at HVU ⊢
            by_cases h6 : 65536 < t.length
            · rw [if_pos h6] at HVU
              have h6z : (65536 : Int) < ((bs t).size : Int) := by rw [bs_size]; omega
              clear h6
              obtain ⟨f0, f1, f2, g0, g1, g2, hk, hbw⟩ := resF HW0.out HB3.out
              have HBW := Lib.hid hbw
              have HK := Lib.hid hk
              clear hk hbw
              go_wp2_with fail
              refine bodyPost_ret (results53 (F := Tryz.f21) rfl rfl HK.out) rfl ?_
              exact ⟨by rw [← HVU.out]; rfl, ((HBW.out.setCell (Nat.le_refl _) _).setCell (Nat.le_refl _) _).setCell (Nat.le_refl _) _⟩
            · rw [if_neg h6] at HVU
              have h6z : ¬(65536 : Int) < ((bs t).size : Int) := by rw [bs_size]; omega
              clear h6
              obtain ⟨f0, f1, f2, g0, g1, g2, hk, hbw⟩ := resF HW0.out HB3.out
              have HBW := Lib.hid hbw
              have HK := Lib.hid hk
              clear hk hbw
              go_wp2_with fail
              refine bodyPost_ret (results53 (F := Tryz.f21) rfl rfl HK.out) rfl ?_
              exact ⟨by rw [← HVU.out]; rfl, ((HBW.out.setCell (Nat.le_refl _) _).setCell (Nat.le_refl _) _).setCell (Nat.le_refl _) _⟩
        · have c34 : ((a.toNat : Int) == 34) = false := byte_ne a 34 (by decide) h34
          have hq : headIs 34 l = false := by rw [e]; simp [headIs, h34]
          rw [if_neg (by rw [hq]; decide)] at HV
          clear h34 hq htl
          obtain ⟨m, z, hmz⟩ : ∃ m z, l = m ++ [z] := by
            rcases List.eq_nil_or_concat l with h | ⟨m, z, h⟩
            · rw [h] at e; cases e
            · exact ⟨m, z, by rw [h, List.concat_eq_append]⟩
          obtain ⟨bi, hbi⟩ : ∃ b, (decide (1 < l.length) && decide (z = 105)) = b := ⟨_, rfl⟩
          have HBI := Lib.hid hbi
          have HMZ := Lib.hid hmz
          have hsz : (bs l).size = m.length + 1 := by rw [bs_size, hmz]; simp
          obtain ⟨k, hk⟩ : ∃ k, m.length = k := ⟨_, rfl⟩
          rw [hk] at hsz
          have hkz : ((bs l).size : Int) - 1 = (k : Int) := by omega
          have hklt : k < (bs l).size := by omega
          have hgz : (bs l)[k] = z := by rw [bs_get]; simp [hmz, ← hk]
          have hkl : (k : Int) < ((bs l).size : Int) := by omega
          have hll : l.length = k + 1 := by rw [← bs_size]; exact hsz
          have HSZ := Lib.hid hsz
          have HK := Lib.hid hk
          clear e hbi hmz hsz hk
          go_upto_region 12 with (fail)
          go_cut [50] from 40 to 50 (fun v w' => v = .bool bi ∧ w2 = w')
          case first =>
            have hbi := HBI.out
            by_cases hk1 : 1 < l.length
            · have hk1z : (1 : Int) < ((bs l).size : Int) := by rw [HSZ.out]; omega
              by_cases hz : z = 105
              · have cz : ((z.toNat : Int) == 105) = true := byte_eq z 105 (by decide) hz
                obtain rfl : true = bi := by rw [← hbi]; simp [hk1, hz]
                clear hbi hz
                go_wp2_with fail
                go_meet
                case rel => exact ⟨rfl, rfl⟩
              · have cz : ((z.toNat : Int) == 105) = false := byte_ne z 105 (by decide) hz
                obtain rfl : false = bi := by rw [← hbi]; simp [hz]
                clear hbi hz
                go_wp2_with fail
                go_meet
                case rel => exact ⟨rfl, rfl⟩
            · have hk1z : ¬(1 : Int) < ((bs l).size : Int) := by rw [HSZ.out]; omega
              obtain rfl : false = bi := by rw [← hbi]; simp [hk1]
              clear hbi
              go_wp2_with fail
              go_meet
              case rel => exact ⟨rfl, rfl⟩
          case rest =>
            obtain ⟨rfl, rfl⟩ := hcut
            have hsuf := suffix_snoc m z
            rw [← HMZ.out] at hsuf
            cases bi with
            | true =>
              have hbi := HBI.out
              simp only [Bool.and_eq_true, decide_eq_true_eq] at hbi
              rw [if_pos (by rw [hsuf.1]; exact decide_eq_true hbi.2), hsuf.2 hbi.2] at HV
              have MI := Lib.hid (int37 m (by rw [HK.out]; omega) w2)
              have hcutl : (bs l).extract 0 k = bs m := by
                apply ByteArray.ext
                apply Array.toList_inj.1
                rw [Lib.extract_data, bs_list, bs_list, HMZ.out, ← HK.out]
                simp
              obtain ⟨xx, hxx⟩ : ∃ x, PF.intP m = x := ⟨_, rfl⟩
              rw [hxx] at MI HV
              obtain ⟨i, n⟩ := xx
              clear hxx hbi hsuf
              simp only at MI HV
              go_wp2_with fail
              refine MI.out.mono ?_
              rintro e w3 ⟨rfl, rfl⟩
              by_cases hn : n = 0
              · rw [if_pos hn] at HV
                have hnb : (n == 0) = true := by rw [hn]; rfl
                clear hn
                obtain ⟨f0, f1, f2, g0, g1, g2, hk, hbw⟩ := resF HW0.out HB2.out
                have HBW := Lib.hid hbw
                have HK := Lib.hid hk
                clear hk hbw
                go_wp2_with fail
                refine bodyPost_ret (results53 (F := Tryz.f21) rfl rfl HK.out) rfl ?_
                exact ⟨by rw [← HV.out]; rfl, ((HBW.out.setCell (Nat.le_refl _) _).setCell (Nat.le_refl _) _).setCell (Nat.le_refl _) _⟩
              · rw [if_neg hn] at HV
                have hnb : (n == 0) = false := by rw [beq_eq_false_iff_ne]; exact hn
                clear hn
                obtain ⟨f0, f1, f2, g0, g1, g2, hk, hbw⟩ := resF HW0.out HB2.out
                have HBW := Lib.hid hbw
                have HK := Lib.hid hk
                clear hk hbw
                go_wp2_with fail
                refine bodyPost_ret (results53 (F := Tryz.f21) rfl rfl HK.out) rfl ?_
                exact ⟨by rw [← HV.out]; rfl, ((HBW.out.setCell (Nat.le_refl _) _).setCell (Nat.le_refl _) _).setCell (Nat.le_refl _) _⟩
            | false =>
              have HV2 : Hid ((if PF.decB l then (if (PF.atof (tabF T) F l).2 then (val 0 0 ⟨#[]⟩, 3) else (val 1 (PF.atof (tabF T) F l).1 ⟨#[]⟩, 0)) else (val 0 0 ⟨#[]⟩, 2)) = V) := Lib.hid (by
                by_cases hz : z = 105
                · have hbi := HBI.out
                  have h1 : ¬1 < l.length := by intro h; simp [h, hz] at hbi
                  have hm : m = [] := by apply List.eq_nil_of_length_eq_zero; rw [HK.out]; omega
                  have hv := HV.out
                  rw [if_pos (by rw [hsuf.1]; exact decide_eq_true hz), hsuf.2 hz, hm] at hv
                  rw [← hv, HMZ.out, hm, hz]
                  rfl
                · have hv := HV.out
                  rw [if_neg (by rw [hsuf.1]; simp [hz])] at hv
                  exact hv)
              clear hsuf HV
              have M58 := Lib.hid (isFloat53 l (by omega) w2)
              obtain ⟨bd, hbd⟩ : ∃ b, PF.decB l = b := ⟨_, rfl⟩
              have HBD := Lib.hid hbd
              rw [hbd] at HV2 M58
              clear hbd
              go_wp2_with fail
              refine M58.out.mono ?_
              rintro e w3 ⟨rfl, rfl⟩
              cases bd with
              | false =>
                rw [if_neg (by decide)] at HV2
                obtain ⟨f0, f1, f2, g0, g1, g2, hk, hbw⟩ := resF HW0.out HB2.out
                have HBW := Lib.hid hbw
                have HK := Lib.hid hk
                clear hk hbw
                go_wp2_with fail
                refine bodyPost_ret (results53 (F := Tryz.f21) rfl rfl HK.out) rfl ?_
                exact ⟨by rw [← HV2.out]; rfl, ((HBW.out.setCell (Nat.le_refl _) _).setCell (Nat.le_refl _) _).setCell (Nat.le_refl _) _⟩
              | true =>
                rw [if_pos rfl] at HV2
                have MP := Lib.hid (parse54 (bs l) (by rw [bs_list]; exact HBD.out) (HW.out _ HBA.out) (HE.out _ HBA.out) HEV.out)
                rw [bs_list] at MP
                have hfin := PF.atof_fin (T := tabF T) (F := F) (fun p => (HW.out _ HBA.out).tl _ |>.1) (HW.out _ HBA.out).flo.ok l
                obtain ⟨xx, hxx⟩ : ∃ x, PF.atof (tabF T) F l = x := ⟨_, rfl⟩
                rw [hxx] at MP HV2 hfin
                obtain ⟨x, ov⟩ := xx
                clear hxx
                simp only at MP HV2 hfin
                have HFIN := Lib.hid hfin
                clear hfin
                go_wp2_with fail
                refine MP.out.mono ?_
                rintro e w3 ⟨h1, h2, hb3⟩
                have HB3 := Lib.hid (HB2.out.trans (hb3.mono HB2.out.size))
                simp only at h1 h2
                cases ov with
                | true =>
                  obtain ⟨NN, rfl⟩ := h2 rfl
                  clear h1 h2 hb3
                  rw [if_pos rfl] at HV2
                  obtain ⟨y, hsub, s, t, hnan⟩ := run_sub_inf (HFIN.out.2.1 rfl) w3
                  have hneq : (FloatKind.f64.format.order y 0 != some Ordering.eq) = true := by
                    show (Ieee.double.order y 0 != some Ordering.eq) = true
                    unfold Ieee.Format.order
                    rw [hnan]
                    rfl
                  clear hnan
                  obtain ⟨f0, f1, f2, g0, g1, g2, hk, hbw⟩ := resF HW0.out HB3.out
                  have HBW := Lib.hid hbw
                  have HK := Lib.hid hk
                  clear hk hbw
                  go_wp2_with fail
                  refine bodyPost_ret (results53d (F := Tryz.f21) rfl rfl HK.out) rfl ?_
                  exact ⟨by rw [← HV2.out]; rfl, (((HBW.out.setCell (Nat.le_refl _) _).setCell (Nat.le_refl _) _).setCell (Nat.le_refl _) _).drew⟩
                | false =>
                  obtain rfl := h1 rfl
                  clear h1 h2 hb3
                  rw [if_neg (by decide)] at HV2
                  have hsub := run_sub_fin (HFIN.out.1 rfl)
                  have hneq : (FloatKind.f64.format.order 0 0 != some Ordering.eq) = false := by kernel_rfl
                  have h55 := run55 x
                  obtain ⟨f0, f1, f2, g0, g1, g2, hk, hbw⟩ := resF HW0.out HB3.out
                  have HBW := Lib.hid hbw
                  have HK := Lib.hid hk
                  clear hk hbw
                  go_wp2_with fail
                  refine bodyPost_ret (results53 (F := Tryz.f21) rfl rfl HK.out) rfl ?_
                  exact ⟨by rw [← HV2.out]; rfl, ((HBW.out.setCell (Nat.le_refl _) _).setCell (Nat.le_refl _) _).setCell (Nat.le_refl _) _⟩
end Go.Proofs.YtagiddbfhlokcaaGreatDoor
/- A world that holds what the row lists: the row's witness; the cells of the two tables of powers out of the row's condition. No condition. -/
namespace Go.Proofs.YtagiddbfhlokcaaGreatDoor.Laid
def lst : List (String × DataW Unit) := Rows.valueParsesRow.laid
set_option maxRecDepth 100000 in
theorem fits (os : Os) : (World.holding Tryz.prog os ⟨#[], #[], []⟩).layFits Tryz.prog lst [] = true := by kernel_rfl
set_option maxRecDepth 100000 in
theorem ifaces (os : Os) : (World.holding Tryz.prog os ⟨#[], #[], []⟩).layIfaces Tryz.prog lst (World.laidAll Tryz.prog os lst) = true := by kernel_rfl
set_option maxRecDepth 100000 in
theorem plain : (lst.all fun x => x.2.handleName?.isNone) = true := by kernel_rfl
theorem met (os : Os) (args : Array Value) : laidMetH Tryz.prog lst ((World.laidAll Tryz.prog os lst).forCall (fun _ _ => 0) ⟨#[], args, []⟩).memory := by
  rw [MakeChecks.laidMetH_plain _ _ _ plain]
  exact laidMet_laidAll _ (fits os) (ifaces os)
set_option maxRecDepth 100000 in
theorem zipB (os : Os) (args : Array Value) : ((World.laidAll Tryz.prog os lst).forCall (fun _ _ => 0) ⟨#[], args, []⟩).variablesZipB Tryz.prog = true := by kernel_rfl
set_option maxRecDepth 100000 in
theorem dropB (os : Os) (args : Array Value) : (((World.laidAll Tryz.prog os lst).forCall (fun _ _ => 0) ⟨#[], args, []⟩).heap.toList.drop Tryz.prog.globals.size).take ((begin Tryz.prog (fun _ _ => 0) default).world.heap.size - Tryz.prog.globals.size) =
      (begin Tryz.prog (fun _ _ => 0) default).world.heap.toList.drop Tryz.prog.globals.size := by kernel_rfl
theorem shaped (os : Os) (args : Array Value) : ((World.laidAll Tryz.prog os lst).forCall (fun _ _ => 0) ⟨#[], args, []⟩).Shaped Tryz.prog := World.shaped_of_ZipB (zipB os args) (dropB os args)
end Go.Proofs.YtagiddbfhlokcaaGreatDoor.Laid
/- The tables of strconv out of the row's condition: cells. No condition. -/
namespace Go.Proofs.YtagiddbfhlokcaaGreatDoor
open Go.RowKit Go.WideShapes Go.ChangeShapes Go.Deep
set_option maxRecDepth 100000
theorem slice_cells {W : World} {t e : TypeId} {c fuel : Nat} {cs : List Value} {xs : List (DataW Unit)} {p : List MemPlace} (ht : Tryz.prog.underlying t = some (.slice e)) (hc : Tryz.prog.cellsOf e = c) (hc0 : 0 < c) (hx : xs ≠ [])
    (h : DataW.trod (fun _ => ()) Tryz.prog W 0 (fun _ => true) false fuel t cs = some (.slice xs [], p)) :
    ∃ (B o n : Nat), cs = [.slice (some ⟨B, o, none⟩) xs.length xs.length] ∧ ∀ i (hi : i < xs.length), ∃ cs' p', (List.range c).mapM (fun j => W.cell? ⟨B, o + i * c + j, none⟩) = some cs' ∧ DataW.trod (fun _ => ()) Tryz.prog W 0 (fun _ => true) false n e cs' = some (xs[i], p') := by
  rcases DataW.trod_slice ht h with ⟨_, hh⟩ | ⟨a, len, cap, elems, rest, n, _, rfl, hh, _, hle, _, hel, hf, hsp, _⟩
  · cases hh
  · simp only [Prod.mk.injEq, DataW.slice.injEq] at hh
    obtain ⟨⟨h1, h2⟩, _⟩ := hh
    have hr : rest = [] := by
      cases rest with
      | nil => rfl
      | cons a b => cases h2
    have hrl := (hsp rfl).1
    rw [hr] at hrl
    have hcap : cap = len := by simp at hrl; omega
    have hlen : xs.length = len := by rw [h1, List.length_map]; exact hel
    have key : ∀ i (hi : i < xs.length), ∃ cs' p', (List.range c).mapM (fun j => W.cell? ((a.add (i * c)).add j)) = some cs' ∧ DataW.trod (fun _ => ()) Tryz.prog W 0 (fun _ => true) false n e cs' = some (xs[i], p') := by
      intro i hi
      have h3 := hf i (by omega)
      rw [hc] at h3
      have hel2 : elems[i]? = some (elems[i]'(by omega)) := List.getElem?_eq_getElem (by omega)
      rw [hel2, Option.bind_eq_some_iff] at h3
      obtain ⟨cs', h4, h5⟩ := h3
      unfold World.cells? at h4
      rw [if_pos (Nat.zero_le _)] at h4
      refine ⟨cs', (elems[i]'(by omega)).2, h4, ?_⟩
      rw [h5]
      congr 1
      have : xs[i] = (elems[i]'(by omega)).1 := by simp [h1]
      rw [this]
    have hsp2 : a.spot = none := by
      obtain ⟨cs', p', h4, _⟩ := key 0 (List.length_pos_iff.2 hx)
      have h6 : ∃ v, W.cell? ((a.add (0 * c)).add 0) = some v := by
        obtain ⟨c', rfl⟩ : ∃ c', c = c' + 1 := ⟨c - 1, by omega⟩
        rw [List.range_succ_eq_map] at h4
        simp only [List.mapM_cons, Option.bind_eq_bind, Option.bind_eq_some_iff] at h4
        obtain ⟨v, hv, _⟩ := h4
        exact ⟨v, hv⟩
      obtain ⟨v, hv⟩ := h6
      rw [Nat.zero_mul] at hv
      exact World.cell?_spot (by simpa [Addr.add] using hv)
    obtain ⟨B, o, sp⟩ := a
    simp only at hsp2
    subst hsp2
    refine ⟨B, o, n, by rw [hlen, hcap], fun i hi => ?_⟩
    obtain ⟨cs', p', h4, h5⟩ := key i hi
    refine ⟨cs', p', ?_, h5⟩
    rw [← h4]
    congr 1
    funext j
    rw [Addr.add_lit, Addr.add_lit]
theorem trod_float {W : World} {t : TypeId} {k : FloatKind} {fuel : Nat} {cs : List Value} {x : DataW Unit × List MemPlace} (ht : Tryz.prog.underlying t = some (.float k)) (h : DataW.trod (fun _ => ()) Tryz.prog W 0 (fun _ => true) false fuel t cs = some x) : ∃ b, cs = [.float k b] ∧ x.1 = .lit (.float k b) := by
  cases fuel with
  | zero => simp [DataW.trod] at h
  | succ n =>
    unfold DataW.trod at h
    rw [ht] at h
    split at h <;> simp_all
    obtain ⟨_, rfl⟩ := h
    rfl
theorem one_of {W : World} {B o : Nat} {cs : List Value} {v : Value} (h : (List.range 1).mapM (fun j => W.cell? ⟨B, o + j, none⟩) = some cs) (hv : cs = [v]) : W.cell? ⟨B, o, none⟩ = some v := by
  subst hv
  simp [List.range_succ_eq_map] at h
  cases hh : W.cell? ⟨B, o, none⟩ with
  | none => rw [hh] at h; cases h
  | some u => rw [hh] at h; simpa using h
theorem two_of {W : World} {B o : Nat} {cs : List Value} {u v : Value} (h : (List.range 2).mapM (fun j => W.cell? ⟨B, o + j, none⟩) = some cs) (hv : cs = [u, v]) : W.cell? ⟨B, o, none⟩ = some u ∧ W.cell? ⟨B, o + 1, none⟩ = some v := by
  subst hv
  simp [List.range_succ_eq_map] at h
  cases hh : W.cell? ⟨B, o, none⟩ with
  | none => rw [hh] at h; cases h
  | some a =>
    cases h2 : W.cell? ⟨B, o + 1, none⟩ with
    | none => rw [hh, h2] at h; cases h
    | some b => rw [hh, h2] at h; simpa using h
/-- Whole numbers in a slice. -/
theorem ints_of {W : World} {t : TypeId} {fuel : Nat} {cs : List Value} {zs : List Int} {p : List MemPlace} (ht : Tryz.prog.underlying t = some (.slice 3)) (hx : zs ≠ [])
    (h : DataW.trod (fun _ => ()) Tryz.prog W 0 (fun _ => true) false fuel t cs = some (.slice (zs.map fun z => .lit (.int .i64 z)) [], p)) :
    ∃ (B o : Nat), cs = [.slice (some ⟨B, o, none⟩) zs.length zs.length] ∧ ∀ i (hi : i < zs.length), W.cell? ⟨B, o + i, none⟩ = some (.int .i64 zs[i]) := by
  obtain ⟨B, o, n, hcs, hf⟩ := slice_cells ht (by kernel_rfl : Tryz.prog.cellsOf 3 = 1) (by omega) (by simpa using hx) h
  refine ⟨B, o, by rw [hcs, List.length_map], fun i hi => ?_⟩
  obtain ⟨cs', p', h1, h2⟩ := hf i (by rw [List.length_map]; exact hi)
  obtain ⟨m, h3, h4, _⟩ := DataW.trod_int Tryz.underlying3 h2
  rw [Nat.mul_one] at h1
  have h5 := one_of h1 h3
  simp at h4
  rw [h5, h4.1]
/-- Floats in a slice. -/
theorem floats_of {W : World} {t : TypeId} {fuel : Nat} {cs : List Value} {zs : List Nat} {p : List MemPlace} (ht : Tryz.prog.underlying t = some (.slice 99)) (hx : zs ≠ [])
    (h : DataW.trod (fun _ => ()) Tryz.prog W 0 (fun _ => true) false fuel t cs = some (.slice (zs.map fun z => .lit (.float .f64 z)) [], p)) :
    ∃ (B o : Nat), cs = [.slice (some ⟨B, o, none⟩) zs.length zs.length] ∧ ∀ i (hi : i < zs.length), W.cell? ⟨B, o + i, none⟩ = some (.float .f64 zs[i]) := by
  obtain ⟨B, o, n, hcs, hf⟩ := slice_cells ht (by kernel_rfl : Tryz.prog.cellsOf 99 = 1) (by omega) (by simpa using hx) h
  refine ⟨B, o, by rw [hcs, List.length_map], fun i hi => ?_⟩
  obtain ⟨cs', p', h1, h2⟩ := hf i (by rw [List.length_map]; exact hi)
  obtain ⟨m, h3, h4⟩ := trod_float Tryz.underlying99 h2
  rw [Nat.mul_one] at h1
  have h5 := one_of h1 h3
  simp at h4
  rw [h5, h4]
/-- Pairs of a number and a text, in a slice. -/
theorem cheats_of {W : World} {fuel : Nat} {cs : List Value} {zs : List (Nat × List UInt8)} {p : List MemPlace} (hx : zs ≠ [])
    (h : DataW.trod (fun _ => ()) Tryz.prog W 0 (fun _ => true) false fuel 343 cs = some (.slice (zs.map fun x => .agg [.lit (.int .i64 x.1), .lit (.string x.2)]) [], p)) :
    ∃ (B o : Nat), cs = [.slice (some ⟨B, o, none⟩) zs.length zs.length] ∧ ∀ i (hi : i < zs.length), W.cell? ⟨B, o + i * 2, none⟩ = some (.int .i64 zs[i].1) ∧ W.cell? ⟨B, o + i * 2 + 1, none⟩ = some (.string ⟨zs[i].2.toArray⟩) := by
  obtain ⟨B, o, n, hcs, hf⟩ := slice_cells Tryz.underlying343 (by kernel_rfl : Tryz.prog.cellsOf 342 = 2) (by omega) (by simpa using hx) h
  refine ⟨B, o, by rw [hcs, List.length_map], fun i hi => ?_⟩
  obtain ⟨cs', p', h1, h2⟩ := hf i (by rw [List.length_map]; exact hi)
  obtain ⟨y0, y1, k, h3, hl, e0, e1⟩ := trod_struct2 Tryz.underlying342 h2
  have c3 : Tryz.prog.cellsOf 3 = 1 := by kernel_rfl
  have c9 : Tryz.prog.cellsOf 9 = 1 := by kernel_rfl
  simp only [c3, c9] at e0 e1
  obtain ⟨a, g0, rfl, _⟩ := DataW.trod_int Tryz.underlying3 e0
  obtain ⟨s, g1, rfl, _⟩ := DataW.trod_string Tryz.underlying9 e1
  simp at h3
  obtain ⟨⟨h4, h5⟩, _⟩ := h3
  have hcs2 : cs' = [.int .i64 a, .string s] := by
    rw [show Tryz.prog.cellsOf 342 = 2 by kernel_rfl] at hl
    match cs', hl with
    | [u, v], _ => simp at g0 g1; rw [g0, g1]
  obtain ⟨h6, h7⟩ := two_of h1 hcs2
  refine ⟨by rw [h6, h4], ?_⟩
  rw [h7]
  congr 2
  rw [h5]
  
theorem laid_head {n : String} {d : DataW Unit} {r : List (String × DataW Unit)} {W : World} {g : Nat} {t : TypeId} (h : laidMet Tryz.prog ((n, d) :: r) W) (hg : Tryz.prog.globalNamed n = some g) (ht : (Tryz.prog.globals[g]?).map (·.type) = some t) :
    ∃ (cs : List Value) (fuel : Nat) (p : List MemPlace), DataW.trod (fun _ => ()) Tryz.prog W 0 (fun _ => true) false fuel t cs = some (d, p) ∧ ∀ i, W.cell? ⟨g, i, none⟩ = cs[i]? := by
  obtain ⟨ps, ⟨g', t', cs, fuel, p, q, hg', ht', hvar, hd, _, _⟩, _⟩ := h
  obtain rfl := Option.some.inj (hg.symm.trans hg')
  obtain rfl := Option.some.inj (ht.symm.trans ht')
  refine ⟨cs.toList, fuel, p, hd, fun i => ?_⟩
  rw [World.var?_cell hg hvar i]
  simp
theorem lst_met {W : World} (h : laidMetH Tryz.prog Laid.lst W) : laidMet Tryz.prog Laid.lst W := by
  rw [MakeChecks.laidMetH_plain _ _ _ Laid.plain] at h
  exact h
theorem drop_met {W : World} (k : Nat) (hk : k ≤ 14) (h : laidMet Tryz.prog Laid.lst W) : laidMet Tryz.prog (Laid.lst.drop k) W := by
  match k, hk with
  | 0, _ => exact h
  | 1, _ => exact h.tail
  | 2, _ => exact h.tail.tail
  | 3, _ => exact h.tail.tail.tail
  | 4, _ => exact h.tail.tail.tail.tail
  | 5, _ => exact h.tail.tail.tail.tail.tail
  | 6, _ => exact h.tail.tail.tail.tail.tail.tail
  | 7, _ => exact h.tail.tail.tail.tail.tail.tail.tail
  | 8, _ => exact h.tail.tail.tail.tail.tail.tail.tail.tail
  | 9, _ => exact h.tail.tail.tail.tail.tail.tail.tail.tail.tail
  | 10, _ => exact h.tail.tail.tail.tail.tail.tail.tail.tail.tail.tail
  | 11, _ => exact h.tail.tail.tail.tail.tail.tail.tail.tail.tail.tail.tail
  | 12, _ => exact h.tail.tail.tail.tail.tail.tail.tail.tail.tail.tail.tail.tail
  | 13, _ => exact h.tail.tail.tail.tail.tail.tail.tail.tail.tail.tail.tail.tail.tail
  | 14, _ => exact h.tail.tail.tail.tail.tail.tail.tail.tail.tail.tail.tail.tail.tail.tail
theorem info_of {W : World} (h : laidMet Tryz.prog Laid.lst W) : W.cell? ⟨7, 0, none⟩ = some (.int .u64 52) ∧ W.cell? ⟨7, 1, none⟩ = some (.int .u64 11) ∧ W.cell? ⟨7, 2, none⟩ = some (.int .i64 (-1023)) := by
  have h3 := drop_met 3 (by omega) h
  obtain ⟨cs, fuel, p, hd, hc⟩ := laid_head (n := "internal/strconv.float64info") (d := Rows.laid_internal_strconv_float64info) (r := Laid.lst.drop 4) (g := 7) (t := 258) h3 (by kernel_rfl) (by kernel_rfl)
  obtain ⟨y0, y1, y2, k, hx, hl, e0, e1, e2⟩ := trod_struct3 Tryz.underlying258 hd
  rw [show Tryz.prog.cellsOf 258 = 3 by kernel_rfl] at hl
  obtain ⟨a, b, c, rfl⟩ : ∃ a b c, cs = [a, b, c] := by
    match cs, hl with
    | [a, b, c], _ => exact ⟨a, b, c, rfl⟩
  have c60 : Tryz.prog.cellsOf 60 = 1 := by kernel_rfl
  have c3 : Tryz.prog.cellsOf 3 = 1 := by kernel_rfl
  simp only [c60, c3] at e0 e1 e2
  obtain ⟨n0, g0, rfl, _⟩ := DataW.trod_int Tryz.underlying60 e0
  obtain ⟨n1, g1, rfl, _⟩ := DataW.trod_int Tryz.underlying60 e1
  obtain ⟨n2, g2, rfl, _⟩ := DataW.trod_int Tryz.underlying3 e2
  simp [Rows.laid_internal_strconv_float64info] at hx
  simp at g0 g1 g2
  obtain ⟨⟨rfl, rfl, rfl⟩, _⟩ := hx
  refine ⟨by rw [hc 0]; simp [g0], by rw [hc 1]; simp [g1], by rw [hc 2]; simp [g2]⟩
theorem op_of {W : World} (h : laidMet Tryz.prog Laid.lst W) : W.cell? ⟨6, 0, none⟩ = some (.bool true) := by
  have h3 := drop_met 4 (by omega) h
  obtain ⟨cs, fuel, p, hd, hc⟩ := laid_head (n := "internal/strconv.optimize") (d := Rows.laid_internal_strconv_optimize) (r := Laid.lst.drop 5) (g := 6) (t := 4) h3 (by kernel_rfl) (by kernel_rfl)
  obtain ⟨b, rfl, hx⟩ := DataW.trod_bool Tryz.underlying4 hd
  simp [Rows.laid_internal_strconv_optimize] at hx
  rw [hc 0, ← hx.1]
  rfl
def ptL : List Int := [1, 3, 6, 9, 13, 16, 19, 23, 26]
theorem pt_of {W : World} (h : laidMet Tryz.prog Laid.lst W) : ∃ B o, W.cell? ⟨11, 0, none⟩ = some (.slice (some ⟨B, o, none⟩) 9 9) ∧ ∀ i (hi : i < 9), W.cell? ⟨B, o + i, none⟩ = some (.int .i64 (ptL[i]'hi)) := by
  have h3 := drop_met 5 (by omega) h
  obtain ⟨cs, fuel, p, hd, hc⟩ := laid_head (n := "internal/strconv.powtab") (d := Rows.laid_internal_strconv_powtab) (r := Laid.lst.drop 6) (g := 11) (t := 45) h3 (by kernel_rfl) (by kernel_rfl)
  have e : (Rows.laid_internal_strconv_powtab : DataW Unit) = .slice (ptL.map fun z => .lit (.int .i64 z)) [] := by kernel_rfl
  rw [e] at hd
  obtain ⟨B, o, rfl, hf⟩ := ints_of Tryz.underlying45 (by decide) hd
  exact ⟨B, o, by rw [hc 0]; rfl, fun i hi => hf i hi⟩
def flL : List Nat := [4607182418800017408, 4621819117588971520, 4636737291354636288, 4652007308841189376, 4666723172467343360, 4681608360884174848, 4696837146684686336, 4711630319722168320, 4726483295884279808, 4741671816366391296, 4756540486875873280, 4771362005757984768, 4786511204640096256, 4801453603149578240, 4816244402031689728, 4831355200913801216, 4846369599423283200, 4861130398305394688, 4876203697187506176, 4891288408196988160, 4906019910204099648, 4921056587992461136, 4936209963552724370]
theorem fl_of {W : World} (h : laidMet Tryz.prog Laid.lst W) : ∃ B o, W.cell? ⟨12, 0, none⟩ = some (.slice (some ⟨B, o, none⟩) 23 23) ∧ ∀ i (hi : i < 23), W.cell? ⟨B, o + i, none⟩ = some (.float .f64 (flL[i]'hi)) := by
  have h3 := drop_met 6 (by omega) h
  obtain ⟨cs, fuel, p, hd, hc⟩ := laid_head (n := "internal/strconv.float64pow10") (d := Rows.laid_internal_strconv_float64pow10) (r := Laid.lst.drop 7) (g := 12) (t := 313) h3 (by kernel_rfl) (by kernel_rfl)
  have e : (Rows.laid_internal_strconv_float64pow10 : DataW Unit) = .slice (flL.map fun z => .lit (.float .f64 z)) [] := by kernel_rfl
  rw [e] at hd
  obtain ⟨B, o, rfl, hf⟩ := floats_of Tryz.underlying313 (by decide) hd
  exact ⟨B, o, by rw [hc 0]; rfl, fun i hi => hf i hi⟩
theorem ch_of {W : World} (h : laidMet Tryz.prog Laid.lst W) : ∃ B o, W.cell? ⟨16, 0, none⟩ = some (.slice (some ⟨B, o, none⟩) 61 61) ∧ ∀ i (hi : i < Pinned.cheatRows.length), W.cell? ⟨B, o + i * 2, none⟩ = some (.int .i64 (Pinned.cheatRows[i]'hi).1) ∧ W.cell? ⟨B, o + i * 2 + 1, none⟩ = some (.string ⟨(Pinned.cheatRows[i]'hi).2.toArray⟩) := by
  have h3 := drop_met 12 (by omega) h
  obtain ⟨cs, fuel, p, hd, hc⟩ := laid_head (n := "internal/strconv.leftcheats") (d := Rows.laid_internal_strconv_leftcheats) (r := Laid.lst.drop 13) (g := 16) (t := 343) h3 (by kernel_rfl) (by kernel_rfl)
  have hd2 : DataW.trod (fun _ => ()) Tryz.prog W 0 (fun _ => true) false fuel 343 cs = some (.slice (Pinned.cheatRows.map fun x => .agg [.lit (.int .i64 x.1), .lit (.string x.2)]) [], p) := hd
  obtain ⟨B, o, rfl, hf⟩ := cheats_of (by decide) hd2
  exact ⟨B, o, by rw [hc 0]; rfl, hf⟩
theorem er_of {W : World} (h : laidMet Tryz.prog Laid.lst W) : ∃ tp p, W.cell? ⟨3, 0, none⟩ = some (.iface tp p) := by
  have h3 := drop_met 10 (by omega) h
  obtain ⟨cs, fuel, p, hd, hc⟩ := laid_head (n := "strconv.ErrRange") (d := Rows.laid_strconv_ErrRange) (r := Laid.lst.drop 11) (g := 3) (t := 104) h3 (by kernel_rfl) (by kernel_rfl)
  cases fuel with
  | zero => simp [DataW.trod] at hd
  | succ n =>
    unfold DataW.trod at hd
    rw [Tryz.underlying104] at hd
    split at hd
    all_goals first
      | (cases hd; done)
      | skip
    all_goals simp_all
    all_goals done
theorem pow_of {W : World} (h : laidMet Tryz.prog Laid.lst W) : ∀ k (hk : k < Pinned.pow10Rows.length), W.cell? ⟨15, k * 2, none⟩ = some (.int .u64 (Pinned.pow10Rows[k]'hk).1) ∧ W.cell? ⟨15, k * 2 + 1, none⟩ = some (.int .u64 (Pinned.pow10Rows[k]'hk).2) := by
  have h3 := drop_met 13 (by omega) h
  obtain ⟨cs, fuel, p, hd, hc⟩ := laid_head (n := "internal/strconv.pow10Tab") (d := Rows.laid_internal_strconv_pow10Tab) (r := Laid.lst.drop 14) (g := 15) (t := 337) h3 (by kernel_rfl) (by kernel_rfl)
  obtain ⟨xs, m, _, hx, hl, hn, hf⟩ := DataW.trod_array Tryz.underlying337 hd
  have c336 : Tryz.prog.cellsOf 336 = 2 := by kernel_rfl
  have c51 : Tryz.prog.cellsOf 51 = 1 := by kernel_rfl
  have h1 : (Pinned.pow10Rows.map fun x => (DataW.agg [.lit (.int .u64 x.1), .lit (.int .u64 x.2)] : DataW Unit)) = xs.map (·.1) := by
    have := congrArg Prod.fst hx
    unfold Rows.laid_internal_strconv_pow10Tab at this
    simp only [Pinned.pow10Tab, DataW.agg.injEq] at this
    exact this
  have hlen : Pinned.pow10Rows.length = xs.length := by have := congrArg List.length h1; simpa using this
  intro k hk
  have h2 : xs[k]? = some (xs[k]'(by omega)) := List.getElem?_eq_getElem (by omega)
  have h4 : (xs[k]'(by omega)).1 = .agg [.lit (.int .u64 (Pinned.pow10Rows[k]'hk).1), .lit (.int .u64 (Pinned.pow10Rows[k]'hk).2)] := by
    have := congrArg (·[k]?) h1
    simp only [List.getElem?_map, List.getElem?_eq_getElem hk, h2, Option.map_some] at this
    exact (Option.some.inj this).symm
  have h5 := hf k (by omega)
  rw [h2, c336] at h5
  cases m with
  | zero => simp [DataW.trod] at h5
  | succ m =>
    obtain ⟨y0, y1, q, h6, _, e0, e1⟩ := trod_struct2 Tryz.underlying336 h5
    simp only [c51] at e0 e1
    obtain ⟨a, g0, rfl, _⟩ := DataW.trod_int Tryz.underlying51 e0
    obtain ⟨b, g1, rfl, _⟩ := DataW.trod_int Tryz.underlying51 e1
    rw [h6] at h4
    simp only [DataW.agg.injEq, List.cons.injEq, DataW.lit.injEq, Lit.int.injEq, true_and, and_true] at h4
    obtain ⟨rfl, rfl⟩ := h4
    constructor
    · have := congrArg (·[0]?) g0
      rw [hc (k * 2)]
      simpa [List.getElem?_take, List.getElem?_drop] using this
    · have := congrArg (·[0]?) g1
      rw [hc (k * 2 + 1)]
      simpa [List.getElem?_take, List.getElem?_drop] using this
end Go.Proofs.YtagiddbfhlokcaaGreatDoor
/- FormatFloat's arithmetic at 1.5: the scaling. Conditions: two cells of the table of powers. -/
namespace Go.Proofs.YtagiddbfhlokcaaGreatDoor.One
open Go.RowKit
set_option maxRecDepth 100000
theorem log2 (w : World) : Calls Tryz.prog 240 #[.int .i64 16] w fun e w' => e = .returned (.int .i64 53) ∧ w' = w := by
  go_enter Tryz.func240, Tryz.ntmps240
  go_wp2
  go_ret
  exact ⟨rfl, rfl⟩
theorem log10 (w : World) : Calls Tryz.prog 159 #[.int .i64 (-52)] w fun e w' => e = .returned (.int .i64 (-16)) ∧ w' = w := by
  go_enter Tryz.func159, Tryz.ntmps159
  go_wp2
  go_ret
  exact ⟨rfl, rfl⟩
def Pow (w : World) : Prop := w.cell? ⟨15, 728, none⟩ = some (.int .u64 10240000000000000000) ∧ w.cell? ⟨15, 729, none⟩ = some (.int .u64 0)
def Pre (w : World) (b : Nat) (x y z : Value) : Prop := w.heap[b]? = some (.cells #[x, y, z] 306 (0, 0))
theorem Pre.c0 {w : World} {b : Nat} {x y z : Value} (h : Pre w b x y z) : w.cell? ⟨b, 0, none⟩ = some x := by rw [Lib.cell_of_heap h]; rfl
theorem Pre.c1 {w : World} {b : Nat} {x y z : Value} (h : Pre w b x y z) : w.cell? ⟨b, 1, none⟩ = some y := by rw [Lib.cell_of_heap h]; rfl
theorem Pre.c2 {w : World} {b : Nat} {x y z : Value} (h : Pre w b x y z) : w.cell? ⟨b, 2, none⟩ = some z := by rw [Lib.cell_of_heap h]; rfl
theorem nudge0 (u : Nat) (w : World) (h : u = 59999999999999995 ∨ u = 60000000000000005) : Calls Tryz.prog 252 #[.int .u64 u, .int .i64 0] w fun e w' => e = .returned (.int .u64 u) ∧ w' = w := by
  rcases h with rfl | rfl <;>
  · go_enter Tryz.func252, Tryz.ntmps252
    go_wp2
    go_ret
    exact ⟨rfl, rfl⟩
theorem ceil15 (w : World) : Calls Tryz.prog 253 #[.int .u64 59999999999999995] w fun e w' => e = .returned (.int .u64 14999999999999999) ∧ w' = w := by
  go_enter Tryz.func253, Tryz.ntmps253
  go_wp2
  go_ret
  exact ⟨rfl, rfl⟩
theorem floor15 (w : World) : Calls Tryz.prog 254 #[.int .u64 60000000000000005] w fun e w' => e = .returned (.int .u64 15000000000000001) ∧ w' = w := by
  go_enter Tryz.func254, Tryz.ntmps254
  go_wp2
  go_ret
  exact ⟨rfl, rfl⟩
theorem mulLo (w : World) : Calls Tryz.prog 271 #[.int .u64 13835058055282162688, .int .u64 10240000000000000000] w fun e w' => e = .returned (.tuple #[.int .u64 7679999999999999431, .int .u64 10437377940734869504]) ∧ w' = w := by
  have h := Tryz.bits_Mul64 13835058055282162688 10240000000000000000 (by omega) (by omega) w
  have e1 : 13835058055282162688 * 10240000000000000000 / 18446744073709551616 = 7679999999999999431 := by rfl
  have e2 : 13835058055282162688 * 10240000000000000000 % 18446744073709551616 = 10437377940734869504 := by rfl
  rw [e1, e2] at h
  exact h
theorem mulHi (w : World) : Calls Tryz.prog 271 #[.int .u64 13835058055282164736, .int .u64 10240000000000000000] w fun e w' => e = .returned (.tuple #[.int .u64 7680000000000000568, .int .u64 8009366132974682112]) ∧ w' = w := by
  have h := Tryz.bits_Mul64 13835058055282164736 10240000000000000000 (by omega) (by omega) w
  have e1 : 13835058055282164736 * 10240000000000000000 / 18446744073709551616 = 7680000000000000568 := by rfl
  have e2 : 13835058055282164736 * 10240000000000000000 % 18446744073709551616 = 8009366132974682112 := by rfl
  rw [e1, e2] at h
  exact h
theorem uscaleLo (w : World) (b : Nat) (y : Value) (h : Pre w b (.int .u64 10240000000000000000) y (.int .i64 7)) : Calls Tryz.prog 242 #[.int .u64 13835058055282162688, .pointer (some ⟨b, 0, none⟩)] w fun e w' => e = .returned (.int .u64 59999999999999995) ∧ w' = w := by
  have c0 := h.c0
  have c2 := h.c2
  have b7 : bits BinOp.and IntKind.i64 7 63 = 7 := by kernel_rfl
  have b8 : bits BinOp.or IntKind.u64 59999999999999995 1 = 59999999999999995 := by kernel_rfl
  have b9 : bits BinOp.or IntKind.u64 60000000000000004 1 = 60000000000000005 := by kernel_rfl
  go_enter Tryz.func242, Tryz.ntmps242
  go_wp2_with fail
  refine (mulLo _).mono ?_
  rintro e w' ⟨rfl, rfl⟩
  go_wp2_with fail
  go_ret
  exact ⟨rfl, rfl⟩
theorem uscaleHi (w : World) (b : Nat) (y : Value) (h : Pre w b (.int .u64 10240000000000000000) y (.int .i64 7)) : Calls Tryz.prog 242 #[.int .u64 13835058055282164736, .pointer (some ⟨b, 0, none⟩)] w fun e w' => e = .returned (.int .u64 60000000000000005) ∧ w' = w := by
  have c0 := h.c0
  have c2 := h.c2
  have b7 : bits BinOp.and IntKind.i64 7 63 = 7 := by kernel_rfl
  have b8 : bits BinOp.or IntKind.u64 59999999999999995 1 = 59999999999999995 := by kernel_rfl
  have b9 : bits BinOp.or IntKind.u64 60000000000000004 1 = 60000000000000005 := by kernel_rfl
  go_enter Tryz.func242, Tryz.ntmps242
  go_wp2_with fail
  refine (mulHi _).mono ?_
  rintro e w' ⟨rfl, rfl⟩
  go_wp2_with fail
  go_ret
  exact ⟨rfl, rfl⟩
end Go.Proofs.YtagiddbfhlokcaaGreatDoor.One
/- FormatFloat's shortest digits at 1.5. Conditions: two cells of the table of powers. -/
namespace Go.Proofs.YtagiddbfhlokcaaGreatDoor.One
open Go.RowKit
set_option maxRecDepth 100000
theorem Pre.set0 {w : World} {b : Nat} {x y z : Value} (h : Pre w b x y z) (v : Value) : Pre (w.setCell ⟨b, 0, none⟩ v) b v y z := Joins.block_setCell (i := 0) h v
theorem Pre.set1 {w : World} {b : Nat} {x y z : Value} (h : Pre w b x y z) (v : Value) : Pre (w.setCell ⟨b, 1, none⟩ v) b x v z := Joins.block_setCell (i := 1) h v
theorem Pre.set2 {w : World} {b : Nat} {x y z : Value} (h : Pre w b x y z) (v : Value) : Pre (w.setCell ⟨b, 2, none⟩ v) b x y v := Joins.block_setCell (i := 2) h v
theorem Pow.set {w : World} {b i : Nat} (h : Pow w) (hb : 15 < b) (v : Value) : Pow (w.setCell ⟨b, i, none⟩ v) :=
  ⟨by rw [World.cell?_setCell_far _ _ _ _ (by simp; omega)]; exact h.1, by rw [World.cell?_setCell_far _ _ _ _ (by simp; omega)]; exact h.2⟩
theorem prescale15 (w : World) (b : Nat) (x y z : Value) (h : Pre w b x y z) (hp : Pow w) (hb : 15 < b) :
    Calls Tryz.prog 241 #[.pointer (some ⟨b, 0, none⟩), .int .i64 (-63), .int .i64 16, .int .i64 53] w fun e w' => e = .returned (.tuple #[]) ∧ Pre w' b (.int .u64 10240000000000000000) (.int .u64 0) (.int .i64 7) ∧ Below b w w' := by
  have p0 := hp.1
  have c0 := h.c0
  have h1 := h.set0 (.int .u64 10240000000000000000)
  have p1 := (hp.set (i := 0) hb (.int .u64 10240000000000000000)).2
  have c1 := h1.c1
  have h2 := h1.set1 (.int .u64 0)
  have c2 := h2.c2
  have f0 := Lib.frozen_of_heap h 0
  have f1 := Lib.frozen_of_heap h1 1
  have f2 := Lib.frozen_of_heap h2 2
  have H3 := Lib.hid (h2.set2 (.int .i64 7))
  clear h h1 h2 hp
  go_enter Tryz.func241, Tryz.ntmps241
  go_wp2
  go_end0
  exact ⟨rfl, H3.out, (((Below.refl b w).setCell (p := ⟨b, 0, none⟩) (Nat.le_refl _) _).setCell (p := ⟨b, 1, none⟩) (Nat.le_refl _) _).setCell (p := ⟨b, 2, none⟩) (Nat.le_refl _) _⟩
theorem short15 (w : World) (hp : Pow w) (h8 : 15 < w.heap.size) :
    Calls Tryz.prog 229 #[.int .u64 13835058055282163712, .int .i64 (-63)] w fun e w' => e = .returned (.tuple #[.int .u64 1500000000000000, .int .i64 (-15)]) ∧ Below w.heap.size w w' := by
  have hpre : Pre (w.alloc (.cells #[.int .u64 0, .int .u64 0, .int .i64 0] 306)) w.heap.size (.int .u64 0) (.int .u64 0) (.int .i64 0) := heap_alloc_new w _
  have hpow : Pow (w.alloc (.cells #[.int .u64 0, .int .u64 0, .int .i64 0] 306)) := ⟨((Below.refl _ _).alloc (Nat.le_refl _) _).cell (p := ⟨15, 728, none⟩) h8 |>.trans hp.1, ((Below.refl _ _).alloc (Nat.le_refl _) _).cell (p := ⟨15, 729, none⟩) h8 |>.trans hp.2⟩
  have HPRE := Lib.hid hpre
  have HPOW := Lib.hid hpow
  have H8 := Lib.hid h8
  clear hpre hpow hp h8
  have a1 : bits BinOp.and IntKind.i64 6755399441055744 1 = 0 := by kernel_rfl
  go_enter Tryz.func229, Tryz.ntmps229
  go_wp2_with fail
  refine (log10 _).mono ?_
  rintro e w' ⟨rfl, hw⟩
  obtain rfl := hw.symm
  clear hw
  go_wp2_with fail
  refine (log2 _).mono ?_
  rintro e w' ⟨rfl, hw⟩
  obtain rfl := hw.symm
  clear hw
  go_wp2_with fail
  refine (prescale15 _ _ _ _ _ HPRE.out HPOW.out H8.out).mono ?_
  rintro e w1 ⟨rfl, h1, hb1⟩
  have H1 := Lib.hid h1
  have HB := Lib.hid (((Below.refl w.heap.size w).alloc (Nat.le_refl _) _).trans hb1)
  clear h1 hb1
  go_wp2_with fail
  refine (uscaleLo _ _ _ H1.out).mono ?_
  rintro e w' ⟨rfl, hw⟩
  obtain rfl := hw.symm
  clear hw
  go_wp2_with fail
  refine (nudge0 59999999999999995 _ (.inl rfl)).mono ?_
  rintro e w' ⟨rfl, hw⟩
  obtain rfl := hw.symm
  clear hw
  go_wp2_with fail
  refine (ceil15 _).mono ?_
  rintro e w' ⟨rfl, hw⟩
  obtain rfl := hw.symm
  clear hw
  go_wp2_with fail
  refine (uscaleHi _ _ _ H1.out).mono ?_
  rintro e w' ⟨rfl, hw⟩
  obtain rfl := hw.symm
  clear hw
  go_wp2_with fail
  refine (nudge0 60000000000000005 _ (.inr rfl)).mono ?_
  rintro e w' ⟨rfl, hw⟩
  obtain rfl := hw.symm
  clear hw
  go_wp2_with fail
  refine (floor15 _).mono ?_
  rintro e w' ⟨rfl, hw⟩
  obtain rfl := hw.symm
  clear hw
  go_wp2_with fail
  go_ret2
  exact ⟨rfl, HB.out⟩
end Go.Proofs.YtagiddbfhlokcaaGreatDoor.One
/- setDigits at 1.5's digits. No condition but the row of 32 noughts. -/
namespace Go.Proofs.YtagiddbfhlokcaaGreatDoor.One
open Go.RowKit Go.Sort
set_option maxRecDepth 100000
def encB (b : UInt8) : Value := Value.int .u8 (b.toNat : Int)
theorem dgs : ∀ t : Fin 16, Lib.dg 1500000000000000 (15 - t.val) = (if t.val = 0 then 49 else if t.val = 1 then 53 else 48) := by decide +kernel
theorem fmt15 (w : World) (b : Nat) (hH : Holds encB w b 0 (Array.replicate 16 0)) :
    Calls Tryz.prog 112 #[.slice (some ⟨b, 0, none⟩) 16 32, .int .u64 1500000000000000] w fun e w' => e = .returned (.tuple #[]) ∧ (∀ t, t < 16 → w'.cell? ⟨b, t, none⟩ = some (.int .u8 (if t = 0 then 49 else if t = 1 then 53 else 48))) ∧ Below b w w' := by
  have h := Tryz.internal_strconv_formatBase10 b 0 32 1500000000000000 (Array.replicate 16 0) w hH (by rw [Array.size_replicate]; decide) (by omega) (by rw [Array.size_replicate]; omega)
  rw [Array.size_replicate] at h
  refine h.mono ?_
  rintro e w' ⟨rfl, n, v', dk, rfl, hf⟩
  refine ⟨rfl, fun t ht => ?_, ?_⟩
  · have h1 := cell?_putRow encB w b 0 _ dk hH (by rw [hf.size, Array.size_replicate]) t (by rw [hf.size]; exact ht)
    have h2 := hf.done t (by omega) ht
    have h3 := dgs ⟨t, ht⟩
    rw [show 16 - 1 - t = 15 - t by omega] at h2
    simp only at h3
    rw [h2, h3, Nat.zero_add] at h1
    refine Eq.trans h1 ?_
    unfold encB
    split
    · rfl
    · split <;> rfl
  · exact ⟨rfl, rfl, rfl, by simp [putRow, mapBlock, World.drewN], fun i hi => by simp only [putRow, mapBlock, World.drewN]; rw [Array.getElem?_modify, if_neg (by omega)]⟩
theorem setDigits15 (w : World) (b : Nat) (hH : Holds encB w b 0 (Array.replicate 16 0)) :
    Calls Tryz.prog 224 #[.slice (some ⟨b, 0, none⟩) 32 32, .int .u64 1500000000000000, .int .i64 (-15), .int .i64 16] w fun e w' => e = .returned (.tuple #[.int .i64 1, .int .i64 2]) ∧ (w'.cell? ⟨b, 0, none⟩ = some (.int .u8 49) ∧ w'.cell? ⟨b, 1, none⟩ = some (.int .u8 53)) ∧ Below b w w' := by
  have HH := Lib.hid hH
  clear hH
  go_enter Tryz.func224, Tryz.ntmps224
  go_wp2_with fail
  refine (fmt15 _ _ HH.out).mono ?_
  rintro e w1 ⟨rfl, hc, hb⟩
  have HC := Lib.hid hc
  have HB := Lib.hid hb
  clear hc hb
  go_wp2_with fail
  go_loopw [3] (fun i wr => (∃ k : Nat, 2 ≤ k ∧ k ≤ 16 ∧ i = .int .i64 k) ∧ wr = w1) (fun i _ => (intOf i).toNat)
  case atStart => exact ⟨⟨16, by omega, by omega, rfl⟩, rfl⟩
  case round =>
    obtain ⟨⟨k, h2, h16, rfl⟩, hw⟩ := hrel
    obtain rfl := hw.symm
    by_cases hk : k = 2
    · subst hk
      have c1 := HC.out 1 (by omega)
      simp only [if_neg (show ¬(1 : Nat) = 0 by omega), if_pos] at c1
      go_wp2
      go_ret2
      exact ⟨rfl, ⟨HC.out 0 (by omega), HC.out 1 (by omega)⟩, HB.out⟩
    · have c1 := HC.out (k - 1) (by omega)
      rw [if_neg (by omega), if_neg (by omega)] at c1
      have e1 : ((k : Int) - 1).toNat = k - 1 := by omega
      go_wp2
      go_roundw
      case rel => exact ⟨⟨k - 1, by omega, by omega, by go_num⟩, trivial⟩
      case measure => simp [intOf]; omega
end Go.Proofs.YtagiddbfhlokcaaGreatDoor.One
/- fmtEFG at 1.5's digits. No condition. -/
namespace Go.Proofs.YtagiddbfhlokcaaGreatDoor.One
open Go.RowKit
set_option maxRecDepth 100000
theorem info5 : (Tryz.prog.info? 5).map (fun i => (i.zero, i.size, i.bytes)) = some (some (.int .u8 0), 1, 1) := by kernel_rfl
structure St (w0 : World) (g b : Nat) (l : List UInt8) (w : World) : Prop where
  own : w.ownsRow g 5 1 (.slice (some ⟨g, 0, none⟩) l.length 24) l.length (Lib.byteCells l)
  c0 : w.cell? ⟨b, 0, none⟩ = some (.int .u8 49)
  c1 : w.cell? ⟨b, 1, none⟩ = some (.int .u8 53)
  bel : Below g w0 w
  gb : g < b
  bw : b < w.heap.size
theorem byteCells_app (l m : List UInt8) : Lib.byteCells (l ++ m) = Lib.byteCells l ++ Lib.byteCells m := by simp [Lib.byteCells]
theorem St.app1 {w0 w w2 : World} {g b : Nat} {l : List UInt8} (h : St w0 g b l w) (m : List UInt8) (hown : w2.ownsRow g 5 1 (.slice (some ⟨g, 0, none⟩) (l.length + m.length) 24) (l.length + m.length) (Lib.byteCells l ++ Lib.byteCells m)) (hg : w.grownBy w2 (some g)) : St w0 g b (l ++ m) w2 := by
  have hbk : w2.heap[b]? = w.heap[b]? := hg.block b h.bw (fun e => by have := h.gb; cases e; omega)
  refine ⟨by rw [List.length_append, byteCells_app]; exact hown, ?_, ?_, ?_, h.gb, Nat.lt_of_lt_of_le h.bw hg.size⟩
  · rw [World.cell?_of_block hbk]; exact h.c0
  · rw [World.cell?_of_block hbk]; exact h.c1
  · exact h.bel.grown hg (by have := h.gb; have := h.bw; omega) (fun j hj => by cases hj; exact Nat.le_refl _)
theorem St.alloc {w0 w : World} {g b : Nat} {l : List UInt8} (h : St w0 g b l w) (o : Obj) : St w0 g b l (w.alloc o) := by
  have hb := (Below.refl w.heap.size w).alloc (Nat.le_refl _) o
  refine ⟨World.ownsRow.alloc h.own _, ?_, ?_, ?_, h.gb, Nat.lt_of_lt_of_le h.bw hb.size⟩
  · rw [hb.cell (p := ⟨b, 0, none⟩) h.bw]; exact h.c0
  · rw [hb.cell (p := ⟨b, 1, none⟩) h.bw]; exact h.c1
  · exact h.bel.alloc (by have := h.gb; have := h.bw; omega) o
theorem St.app {w0 w w2 : World} {g b : Nat} {l : List UInt8} {o : Obj} (h : St w0 g b l w) (m : List UInt8) (hown : w2.ownsRow g 5 1 (.slice (some ⟨g, 0, none⟩) (l.length + m.length) 24) (l.length + m.length) (Lib.byteCells l ++ Lib.byteCells m)) (hg : (w.alloc o).grownBy w2 (some g)) : St w0 g b (l ++ m) w2 := (h.alloc o).app1 m hown hg
theorem news1 {w : World} {b : Nat} (h : w.cell? ⟨b, 1, none⟩ = some (.int .u8 53)) : ∀ j u, [Value.int .u8 53][j]? = some u → w.cell? (Addr.add ⟨b, 1, none⟩ j) = some u := by
  intro j u hj
  match j, hj with
  | 0, hj => simp at hj; subst hj; simpa [Addr.add] using h

theorem efg15e (w0 w1 : World) (g b : Nat) (h : St w0 g b [] w1) :
    Calls Tryz.prog 222 #[.slice (some ⟨g, 0, none⟩) 0 24, .bool false, .slice (some ⟨b, 0, none⟩) 32 32, .int .i64 1, .int .i64 2, .int .i64 1, .int .u8 101, .bool true] w1 fun e w' => e = .returned (.slice (some ⟨g, 0, none⟩) 7 24) ∧ St w0 g b [49, 46, 53, 101, 43, 48, 48] w' := by
  obtain ⟨i0, hi, hz0, hz1, hz2⟩ := info_parts info5
  have HI := Lib.hid hi
  have HZ1 := Lib.hid hz1
  have HS0 := Lib.hid h
  clear hi hz0 hz1 hz2 h
  have k0 := HS0.out.c0
  go_enter Tryz.func222, Tryz.ntmps222
  go_wp2_with (first
    | (at_builtin; (refine wpList_append_fits _ rfl (.tmp 87) (.tmp 89) 59 rfl g 5 i0 1 Tryz.underlying59 HI.out HZ1.out g 0 24 (Lib.byteCells []) rfl (World.ownsRow.alloc HS0.out.own _) ⟨w1.heap.size, 0, none⟩ 1 1 [.int .u8 49] rfl rfl (World.news_of_block (cs := #[.int .u8 49]) (t := 5) (fr := (0, 0)) (heap_alloc_new w1 _)) (by simp [Value.oneCell']) (by omega) ?_); intro w2 hown hgrow; have HS1 := Lib.hid (HS0.out.app [49] hown hgrow); clear hown hgrow)
    | (at_builtin; (refine wpList_append_fits _ rfl (.tmp 93) (.tmp 94) 59 rfl g 5 i0 1 Tryz.underlying59 HI.out HZ1.out g 1 24 (Lib.byteCells [49]) rfl (World.ownsRow.alloc HS1.out.own _) ⟨w2.heap.size, 0, none⟩ 1 1 [.int .u8 46] rfl rfl (World.news_of_block (cs := #[.int .u8 46]) (t := 5) (fr := (0, 0)) (heap_alloc_new w2 _)) (by simp [Value.oneCell']) (by omega) ?_); intro w3 hown hgrow; have HS2 := Lib.hid (HS1.out.app [46] hown hgrow); clear hown hgrow)
    | (at_builtin; go_must (refine wpList_append_fits _ rfl (.tmp 103) (.tmp 107) 59 rfl g 5 i0 1 Tryz.underlying59 HI.out HZ1.out g 2 24 (Lib.byteCells [49, 46]) rfl HS2.out.own ⟨b, 1, none⟩ 1 31 [.int .u8 53] rfl rfl (news1 HS2.out.c1) (by simp [Value.oneCell']) (by omega) ?_); intro w4 hown hgrow; have HS3 := Lib.hid (HS2.out.app1 [53] hown hgrow); clear hown hgrow)
    | fail)
  go_loopw [0, 114] (fun v i wr => v = .slice (some ⟨g, 0, none⟩) 3 24 ∧ i = .int .i64 0 ∧ wr = w4) (fun _ _ _ => 0)
  case atStart => exact ⟨rfl, rfl, rfl⟩
  case round =>
    obtain ⟨rfl, rfl, hw⟩ := hrel
    obtain rfl := hw.symm
    go_wp2_with (first
      | (at_builtin; (refine wpList_append_fits _ rfl (.tmp 120) (.tmp 122) 59 rfl g 5 i0 1 Tryz.underlying59 HI.out HZ1.out g 3 24 (Lib.byteCells [49, 46, 53]) rfl (World.ownsRow.alloc HS3.out.own _) ⟨w4.heap.size, 0, none⟩ 1 1 [.int .u8 101] rfl rfl (World.news_of_block (cs := #[.int .u8 101]) (t := 5) (fr := (0, 0)) (heap_alloc_new w4 _)) (by simp [Value.oneCell']) (by omega) ?_); intro w5 hown hgrow; have HS4 := Lib.hid (HS3.out.app [101] hown hgrow); clear hown hgrow)
      | (at_builtin; (refine wpList_append_fits _ rfl (.tmp 132) (.tmp 134) 59 rfl g 5 i0 1 Tryz.underlying59 HI.out HZ1.out g 4 24 (Lib.byteCells [49, 46, 53, 101]) rfl (World.ownsRow.alloc HS4.out.own _) ⟨w5.heap.size, 0, none⟩ 1 1 [.int .u8 43] rfl rfl (World.news_of_block (cs := #[.int .u8 43]) (t := 5) (fr := (0, 0)) (heap_alloc_new w5 _)) (by simp [Value.oneCell']) (by omega) ?_); intro w6 hown hgrow; have HS5 := Lib.hid (HS4.out.app [43] hown hgrow); clear hown hgrow)
      | (at_builtin; go_must (refine wpList_append_fits _ rfl (.tmp 155) (.tmp 159) 59 rfl g 5 i0 1 Tryz.underlying59 HI.out HZ1.out g 5 24 (Lib.byteCells [49, 46, 53, 101, 43]) rfl (World.ownsRow.alloc HS5.out.own _) ⟨w6.heap.size, 0, none⟩ 2 2 [.int .u8 48, .int .u8 48] rfl rfl (World.news_of_block (cs := #[.int .u8 48, .int .u8 48]) (t := 5) (fr := (0, 0)) (heap_alloc_new w6 _)) (by simp [Value.oneCell']) (by omega) ?_); intro w7 hown hgrow; have HS6 := Lib.hid (HS5.out.app [48, 48] hown hgrow); clear hown hgrow)
      | fail)
    go_ret
    exact ⟨rfl, HS6.out⟩
end Go.Proofs.YtagiddbfhlokcaaGreatDoor.One
/- fmtEFG at 1.5's digits, by 'f'. No condition. -/
namespace Go.Proofs.YtagiddbfhlokcaaGreatDoor.One
open Go.RowKit
set_option maxRecDepth 100000
theorem efg15f (w0 w1 : World) (g b : Nat) (h : St w0 g b [] w1) :
    Calls Tryz.prog 222 #[.slice (some ⟨g, 0, none⟩) 0 24, .bool false, .slice (some ⟨b, 0, none⟩) 32 32, .int .i64 1, .int .i64 2, .int .i64 1, .int .u8 102, .bool true] w1 fun e w' => e = .returned (.slice (some ⟨g, 0, none⟩) 3 24) ∧ St w0 g b [49, 46, 53] w' := by
  obtain ⟨i0, hi, hz0, hz1, hz2⟩ := info_parts info5
  have HI := Lib.hid hi
  have HZ1 := Lib.hid hz1
  have HS0 := Lib.hid h
  clear hi hz0 hz1 hz2 h
  have k0 := HS0.out.c0
  have mm0 : max (0 : Int) (-1) = 0 := by decide
  have mm1 : min (1 : Int) 0 = 0 := by decide
  have mm2 : max (0 : Int) 1 = 1 := by decide
  have mm3 : min (1 : Int) 1 = 1 := by decide
  go_enter Tryz.func222, Tryz.ntmps222
  go_wp2_with fail
  go_loopw [0, 25, 191] (fun v _ i wr => (v = .slice (some ⟨g, 0, none⟩) 0 24 ∧ i = .int .i64 0 ∧ wr = w1) ∨ (v = .slice (some ⟨g, 0, none⟩) 1 24 ∧ i = .int .i64 1 ∧ St w0 g b [49] wr)) (fun _ _ i _ => 1 - (intOf i).toNat)
  case atStart => exact .inl ⟨rfl, rfl, rfl⟩
  case round =>
    rcases hrel with ⟨rfl, rfl, hw⟩ | ⟨rfl, rfl, h1⟩
    · obtain rfl := hw.symm
      go_wp2_with ((at_builtin; go_must (refine wpList_append_fits _ rfl (.tmp 195) (.tmp 197) 59 rfl g 5 i0 1 Tryz.underlying59 HI.out HZ1.out g 0 24 (Lib.byteCells []) rfl (World.ownsRow.alloc HS0.out.own _) ⟨w1.heap.size, 0, none⟩ 1 1 [.int .u8 49] rfl rfl (World.news_of_block (cs := #[.int .u8 49]) (t := 5) (fr := (0, 0)) (heap_alloc_new w1 _)) (by simp [Value.oneCell']) (by omega) ?_); intro w2 hown hgrow; have HS1 := Lib.hid (HS0.out.app [49] hown hgrow); clear hown hgrow))
      go_roundw
      case rel => exact .inr ⟨rfl, by go_num, HS1.out⟩
      case measure => simp [intOf]
    · obtain ⟨wa, hwa⟩ : ∃ wa, wa = wr := ⟨_, rfl⟩
      subst hwa
      have HS1 := Lib.hid h1
      clear h1
      go_wp2_with fail
      go_loopw [0, 203] (fun v i wr => v = .slice (some ⟨g, 0, none⟩) 1 24 ∧ i = .int .i64 0 ∧ wr = wa) (fun _ _ _ => 0)
      case atStart => exact ⟨rfl, rfl, rfl⟩
      case round =>
        obtain ⟨rfl, rfl, hw⟩ := hrel
        obtain rfl := hw.symm
        go_wp2_with ((at_builtin; go_must (refine wpList_append_fits _ rfl (.tmp 214) (.tmp 215) 59 rfl g 5 i0 1 Tryz.underlying59 HI.out HZ1.out g 1 24 (Lib.byteCells [49]) rfl (World.ownsRow.alloc HS1.out.own _) ⟨wa.heap.size, 0, none⟩ 1 1 [.int .u8 46] rfl rfl (World.news_of_block (cs := #[.int .u8 46]) (t := 5) (fr := (0, 0)) (heap_alloc_new wa _)) (by simp [Value.oneCell']) (by omega) ?_); intro w3 hown hgrow; have HS2 := Lib.hid (HS1.out.app [46] hown hgrow); clear hown hgrow))
        go_loopw [0, 240] (fun v i wr => v = .slice (some ⟨g, 0, none⟩) 2 24 ∧ i = .int .i64 0 ∧ wr = w3) (fun _ _ _ => 0)
        case atStart => exact ⟨rfl, rfl, rfl⟩
        case round =>
          obtain ⟨rfl, rfl, hw⟩ := hrel
          obtain rfl := hw.symm
          go_wp2_with fail
          go_loopw [0, 30, 247] (fun v _ i wr => (v = .slice (some ⟨g, 0, none⟩) 2 24 ∧ i = .int .i64 0 ∧ wr = w3) ∨ (v = .slice (some ⟨g, 0, none⟩) 3 24 ∧ i = .int .i64 1 ∧ St w0 g b [49, 46, 53] wr)) (fun _ _ i _ => 1 - (intOf i).toNat)
          case atStart => exact .inl ⟨rfl, rfl, rfl⟩
          case round =>
            rcases hrel with ⟨rfl, rfl, hw⟩ | ⟨rfl, rfl, h1⟩
            · obtain rfl := hw.symm
              have k1 := HS2.out.c1
              go_wp2_with ((at_builtin; go_must (refine wpList_append_fits _ rfl (.tmp 250) (.tmp 257) 59 rfl g 5 i0 1 Tryz.underlying59 HI.out HZ1.out g 2 24 (Lib.byteCells [49, 46]) rfl (World.ownsRow.alloc HS2.out.own _) ⟨w3.heap.size, 0, none⟩ 1 1 [.int .u8 53] rfl rfl (World.news_of_block (cs := #[.int .u8 53]) (t := 5) (fr := (0, 0)) (heap_alloc_new w3 _)) (by simp [Value.oneCell']) (by omega) ?_); intro w4 hown hgrow; have HS3 := Lib.hid (HS2.out.app [53] hown hgrow); clear hown hgrow))
              go_roundw
              case rel => exact .inr ⟨rfl, by go_num, HS3.out⟩
              case measure => simp [intOf]
            · obtain ⟨wb, hwb⟩ : ∃ wb, wb = wr := ⟨_, rfl⟩
              subst hwb
              have HS3 := Lib.hid h1
              clear h1
              go_wp2_with fail
              go_loopw [0, 261] (fun v i wr => v = .slice (some ⟨g, 0, none⟩) 3 24 ∧ i = .int .i64 0 ∧ wr = wb) (fun _ _ _ => 0)
              case atStart => exact ⟨rfl, rfl, rfl⟩
              case round =>
                obtain ⟨rfl, rfl, hw⟩ := hrel
                obtain rfl := hw.symm
                go_wp2_with fail
                go_ret
                exact ⟨rfl, HS3.out⟩
end Go.Proofs.YtagiddbfhlokcaaGreatDoor.One
/- ftoa64 at 1.5. Conditions: the cells of the two tables of powers. -/
namespace Go.Proofs.YtagiddbfhlokcaaGreatDoor.One
open Go.RowKit Go.Sort
set_option maxRecDepth 100000
structure Env (w : World) : Prop where
  pow : Pow w
  tab : Lib.TabIs Tryz.prog w "internal/strconv.uint64pow10" .u64 Lib.pow10Tab
theorem Env.later {w w' : World} {B : Nat} (h : Env w) (hb : Below B w w') (h8 : 15 < B) : Env w' := by
  refine ⟨⟨(hb.cell (p := ⟨15, 728, none⟩) h8).trans h.pow.1, (hb.cell (p := ⟨15, 729, none⟩) h8).trans h.pow.2⟩, ?_⟩
  have ht := h.tab
  have hg : Tryz.prog.globalNamed "internal/strconv.uint64pow10" = some 1 := by kernel_rfl
  unfold Lib.TabIs World.var? at ht ⊢
  rw [hg] at ht ⊢
  simp only [Option.bind_some] at ht ⊢
  rw [hb.block 1 (by omega)]
  exact ht
theorem Env.drew {w : World} (h : Env w) : Env w.drew := ⟨⟨h.pow.1, h.pow.2⟩, h.tab⟩
theorem bits65 (w : World) : (callFunc 219 #[.float .f64 4609434218613702656]).run Tryz.prog w = .ok (.value (.int .u64 4609434218613702656)) w := by
  rw [run_callFunc_extern (e := Extern.MathFloatBits.float64bits) Tryz.func219 (by kernel_rfl) (by kernel_rfl) (by kernel_rfl) (by kernel_rfl)]
  rfl
theorem len15 (w : World) : Calls Tryz.prog 132 #[.int .u64 6755399441055744] w fun e w' => e = .returned (.int .i64 53) ∧ w = w' := by
  refine (Tryz.bits_Len64 6755399441055744 w (by omega) (by omega)).mono ?_
  rintro e w' ⟨rfl, h⟩
  exact ⟨by rw [show Lib.bitLen (Int.toNat 6755399441055744) = 53 by decide +kernel]; rfl, h.symm⟩
theorem num15 (w : World) (h : Env w) : Calls Tryz.prog 111 #[.int .u64 1500000000000000] w fun e w' => e = .returned (.int .i64 16) ∧ w = w' := by
  refine (Tryz.internal_strconv_numDigits 1500000000000000 (by omega) (by omega) w h.tab).mono ?_
  rintro e w' ⟨rfl, h⟩
  exact ⟨by rw [show Lib.nDigits 1500000000000000 = 16 by decide +kernel]; rfl, h.symm⟩
def zeros32 : Array Value := #[.int .u8 0, .int .u8 0, .int .u8 0, .int .u8 0, .int .u8 0, .int .u8 0, .int .u8 0, .int .u8 0, .int .u8 0, .int .u8 0, .int .u8 0, .int .u8 0, .int .u8 0, .int .u8 0, .int .u8 0, .int .u8 0, .int .u8 0, .int .u8 0, .int .u8 0, .int .u8 0, .int .u8 0, .int .u8 0, .int .u8 0, .int .u8 0, .int .u8 0, .int .u8 0, .int .u8 0, .int .u8 0, .int .u8 0, .int .u8 0, .int .u8 0, .int .u8 0]
theorem holds_zeros (w : World) (b : Nat) (h : w.heap[b]? = some (.cells zeros32 281 (0, 0))) : Holds encB w b 0 (Array.replicate 16 0) := by
  intro j hj
  have hj' : j < 16 := by simpa using hj
  refine ⟨?_, Lib.frozen_of_heap h _⟩
  rw [Lib.cell_of_heap h]
  have e : zeros32 = Array.replicate 32 (.int .u8 0) := rfl
  rw [e, Array.getElem?_replicate, if_pos (by omega)]
  simp [encB, hj']
theorem own_later {w w' : World} {base e size n cap g : Nat} {xs : List Value} (h : w.ownsRow base e size (.slice (some ⟨g, 0, none⟩) n cap) n xs) (hb : Below w.heap.size w w') : w'.ownsRow base e size (.slice (some ⟨g, 0, none⟩) n cap) n xs :=
  h.kept (row := none) ⟨hb.os, hb.tape, hb.output, hb.size, fun k hk _ => hb.block k hk⟩ (.inr (by simp [Value.ownBlock]))
theorem ftoa15e (w0 : World) (g : Nat) (hown : w0.ownsRow g 5 1 (.slice (some ⟨g, 0, none⟩) 0 24) 0 []) (hg : 15 < g) (henv : Env w0) :
    Calls Tryz.prog 187 #[.slice (some ⟨g, 0, none⟩) 0 24, .float .f64 4609434218613702656, .int .u8 101, .int .i64 (-1)] w0 fun e w' => e = .returned (.slice (some ⟨g, 0, none⟩) 7 24) ∧ w'.ownsRow g 5 1 (.slice (some ⟨g, 0, none⟩) 7 24) 7 (Lib.byteCells [49, 46, 53, 101, 43, 48, 48]) ∧ Below g w0 w' := by
  have h65 := bits65
  have b1 : bits BinOp.and IntKind.u64 4609434218613702656 4503599627370495 = 2251799813685248 := by kernel_rfl
  have b2 : bits BinOp.or IntKind.u64 2251799813685248 4503599627370496 = 6755399441055744 := by kernel_rfl
  have mm4 : max (1 : Int) 0 = 1 := by decide
  have b3 : bits BinOp.and IntKind.i64 1023 2047 = 1023 := by kernel_rfl
  have hgs := (hown.lt g rfl).2
  have hbA := fun n => (below_drewN (Below.refl w0.heap.size w0) n).alloc (Nat.le_refl _) (.cells zeros32 281)
  have henvA := fun n => henv.later (hbA n) (by omega)
  have hzA : ∀ n, ((w0.drewN n).alloc (.cells zeros32 281)).heap[w0.heap.size]? = some (.cells zeros32 281 (0, 0)) := fun n => heap_alloc_new (w0.drewN n) _
  have HBA := Lib.hid hbA
  have HEA := Lib.hid henvA
  have HZA := Lib.hid hzA
  have HG := Lib.hid hgs
  clear hbA henvA hzA hgs
  have HO := Lib.hid hown
  have HE := Lib.hid henv
  clear hown henv
  go_enter Tryz.func187, Tryz.ntmps187
  go_wp2
  go_quiet (fail)
  go_wp2_with fail
  refine (len15 _).mono ?_
  rintro e w1 ⟨rfl, rfl⟩
  go_wp2_with fail
  refine (short15 _ (HEA.out nq).pow (by have := HG.out; simp; omega)).mono ?_
  rintro e w2 ⟨rfl, hb2⟩
  have HB2 := Lib.hid ((HBA.out nq).trans (hb2.mono (by simp)))
  have HZ2 := Lib.hid ((hb2.block w0.heap.size (by simp)).trans (HZA.out nq))
  have HB2S := Lib.hid hb2
  have HE2 := Lib.hid ((HEA.out nq).later hb2 (by have := HG.out; simp; omega))
  have HG8 := Lib.hid (show 15 < ((w0.drewN nq).alloc (.cells zeros32 281)).heap.size by have := HG.out; simp; omega)
  have HH := Lib.hid (holds_zeros w2.drew w0.heap.size HZ2.out)
  clear hb2
  go_wp2_with fail
  go_region_law (first
    | (go_simp; go_at_call 111; refine (num15 _ (HE2.out.drew)).mono ?_; rintro e w' ⟨rfl, rfl⟩)
    | (go_simp; go_at_call 224; refine (setDigits15 _ _ HH.out).mono ?_; rintro e w3 ⟨rfl, hc, hb3⟩))
  have hb4 : Below w0.heap.size w0 w3 := HB2.out.trans (show Below w0.heap.size w2 w3 from ⟨hb3.os, hb3.tape, hb3.output, hb3.size, hb3.block⟩)
  have hsz : w0.heap.size < w3.heap.size := by have h1 := HB2S.out.size; have h2 := hb3.size; simp at h1 h2; omega
  have HST := Lib.hid (show St w0 g w0.heap.size [] w3 from ⟨own_later HO.out hb4, hc.1, hc.2, hb4.mono (Nat.le_of_lt HG.out), HG.out, hsz⟩)
  clear hc hb3 hb4 hsz
  go_wp2_with (go_at_call 222; go_must (refine (efg15e _ _ _ _ HST.out).mono ?_); rintro e w4 ⟨rfl, h4⟩)
  go_ret
  exact ⟨rfl, h4.own, h4.bel⟩
theorem ftoa15f (w0 : World) (g : Nat) (hown : w0.ownsRow g 5 1 (.slice (some ⟨g, 0, none⟩) 0 24) 0 []) (hg : 15 < g) (henv : Env w0) :
    Calls Tryz.prog 187 #[.slice (some ⟨g, 0, none⟩) 0 24, .float .f64 4609434218613702656, .int .u8 102, .int .i64 (-1)] w0 fun e w' => e = .returned (.slice (some ⟨g, 0, none⟩) 3 24) ∧ w'.ownsRow g 5 1 (.slice (some ⟨g, 0, none⟩) 3 24) 3 (Lib.byteCells [49, 46, 53]) ∧ Below g w0 w' := by
  have h65 := bits65
  have b1 : bits BinOp.and IntKind.u64 4609434218613702656 4503599627370495 = 2251799813685248 := by kernel_rfl
  have b2 : bits BinOp.or IntKind.u64 2251799813685248 4503599627370496 = 6755399441055744 := by kernel_rfl
  have mm4 : max (1 : Int) 0 = 1 := by decide
  have b3 : bits BinOp.and IntKind.i64 1023 2047 = 1023 := by kernel_rfl
  have hgs := (hown.lt g rfl).2
  have hbA := fun n => (below_drewN (Below.refl w0.heap.size w0) n).alloc (Nat.le_refl _) (.cells zeros32 281)
  have henvA := fun n => henv.later (hbA n) (by omega)
  have hzA : ∀ n, ((w0.drewN n).alloc (.cells zeros32 281)).heap[w0.heap.size]? = some (.cells zeros32 281 (0, 0)) := fun n => heap_alloc_new (w0.drewN n) _
  have HBA := Lib.hid hbA
  have HEA := Lib.hid henvA
  have HZA := Lib.hid hzA
  have HG := Lib.hid hgs
  clear hbA henvA hzA hgs
  have HO := Lib.hid hown
  have HE := Lib.hid henv
  clear hown henv
  go_enter Tryz.func187, Tryz.ntmps187
  go_wp2
  go_quiet (fail)
  go_wp2_with fail
  refine (len15 _).mono ?_
  rintro e w1 ⟨rfl, rfl⟩
  go_wp2_with fail
  refine (short15 _ (HEA.out nq).pow (by have := HG.out; simp; omega)).mono ?_
  rintro e w2 ⟨rfl, hb2⟩
  have HB2 := Lib.hid ((HBA.out nq).trans (hb2.mono (by simp)))
  have HZ2 := Lib.hid ((hb2.block w0.heap.size (by simp)).trans (HZA.out nq))
  have HB2S := Lib.hid hb2
  have HE2 := Lib.hid ((HEA.out nq).later hb2 (by have := HG.out; simp; omega))
  have HG8 := Lib.hid (show 15 < ((w0.drewN nq).alloc (.cells zeros32 281)).heap.size by have := HG.out; simp; omega)
  have HH := Lib.hid (holds_zeros w2.drew w0.heap.size HZ2.out)
  clear hb2
  go_wp2_with fail
  go_region_law (first
    | (go_simp; go_at_call 111; refine (num15 _ (HE2.out.drew)).mono ?_; rintro e w' ⟨rfl, rfl⟩)
    | (go_simp; go_at_call 224; refine (setDigits15 _ _ HH.out).mono ?_; rintro e w3 ⟨rfl, hc, hb3⟩))
  have hb4 : Below w0.heap.size w0 w3 := HB2.out.trans (show Below w0.heap.size w2 w3 from ⟨hb3.os, hb3.tape, hb3.output, hb3.size, hb3.block⟩)
  have hsz : w0.heap.size < w3.heap.size := by have h1 := HB2S.out.size; have h2 := hb3.size; simp at h1 h2; omega
  have HST := Lib.hid (show St w0 g w0.heap.size [] w3 from ⟨own_later HO.out hb4, hc.1, hc.2, hb4.mono (Nat.le_of_lt HG.out), HG.out, hsz⟩)
  clear hc hb3 hb4 hsz
  go_wp2_with (go_at_call 222; go_must (refine (efg15f _ _ _ _ HST.out).mono ?_); rintro e w4 ⟨rfl, h4⟩)
  go_ret
  exact ⟨rfl, h4.own, h4.bel⟩
end Go.Proofs.YtagiddbfhlokcaaGreatDoor.One
/- FormatFloat at 1.5. Conditions: the cells of the two tables of powers. -/
namespace Go.Proofs.YtagiddbfhlokcaaGreatDoor.One
open Go.RowKit
set_option maxRecDepth 100000
theorem str_of_own {w : World} {base : Nat} {v : Value} (l : List UInt8) (h : w.ownsRow base 5 1 v l.length (Lib.byteCells l)) : (convert 59 9 v).run Tryz.prog w = .ok (.string ⟨l.toArray⟩) w := by
  rcases h.2 with ⟨rfl, h0⟩ | ⟨g, cap, cur, rfl, _⟩
  · have : l = [] := List.length_eq_zero_iff.1 h0
    subst this
    rw [run_convert_bytes_string w 59 9 5 none 0 0 Tryz.underlying59 Tryz.underlying5 Tryz.underlying9]
    rfl
  · refine run_convert_bytes_back w 59 9 5 ⟨g, 0, none⟩ cap l Tryz.underlying59 Tryz.underlying5 Tryz.underlying9 fun j hj => ?_
    have := h.cellAt j (by omega)
    have e : (Addr.add ⟨g, 0, none⟩ j) = ⟨g, j, none⟩ := by unfold Addr.add; split <;> simp_all
    rw [e, this]
    simp [Lib.byteCells, hj]

theorem iform15e (w0 : World) (henv : Env w0) (h8 : 15 < w0.heap.size) : Calls Tryz.prog 150 #[.float .f64 4609434218613702656, .int .u8 101, .int .i64 (-1), .int .i64 64] w0 fun e w' => e = .returned (.string ⟨#[49, 46, 53, 101, 43, 48, 48]⟩) ∧ Below w0.heap.size w0 w' := by
  obtain ⟨i0, hi, hz0, hz1, hz2⟩ := info_parts info5
  have HI := Lib.hid hi
  have HZ0 := Lib.hid hz0
  have HZ1 := Lib.hid hz1
  have HZ2 := Lib.hid hz2
  have HE := Lib.hid henv
  have H8 := Lib.hid h8
  clear hi hz0 hz1 hz2 henv h8
  go_enter Tryz.func150, Tryz.ntmps150
  go_wp2_with (first
    | (refine wpList_make_own w0 rfl _ _ 59 rfl w0.heap.size 5 i0 (.int .u8 0) 1 Tryz.underlying59 HI.out HZ0.out HZ1.out .i64 .i64 24 24 rfl rfl rfl (by rw [HZ2.out]; omega) (by unfold maxLen; omega) (Nat.le_refl _) ?_; intro w1 hown hgrow; have HO1 := Lib.hid hown; have HB1 := Lib.hid ((Below.refl w0.heap.size w0).grown hgrow (Nat.le_refl _) (fun j hj => by cases hj)); have HE1 := Lib.hid (HE.out.later HB1.out H8.out); clear hown hgrow)
    | (go_at_call 187; refine (ftoa15e _ w0.heap.size HO1.out H8.out HE1.out).mono ?_; rintro e w' ⟨rfl, ho, hb⟩; have hcv := str_of_own [49, 46, 53, 101, 43, 48, 48] ho; have HB2 := Lib.hid hb; clear ho hb))
  go_ret
  exact ⟨rfl, HB1.out.trans HB2.out⟩
theorem form15e (w0 : World) (henv : Env w0) (h8 : 15 < w0.heap.size) : Calls Tryz.prog 101 #[.float .f64 4609434218613702656, .int .u8 101, .int .i64 (-1), .int .i64 64] w0 fun e w' => e = .returned (.string ⟨#[49, 46, 53, 101, 43, 48, 48]⟩) ∧ Below w0.heap.size w0 w' := by
  go_enter Tryz.func101, Tryz.ntmps101
  go_wp2_with (go_at_call 150; refine (iform15e _ henv h8).mono ?_; rintro e w' ⟨rfl, hb⟩)
  go_ret
  exact ⟨rfl, hb⟩
theorem iform15f (w0 : World) (henv : Env w0) (h8 : 15 < w0.heap.size) : Calls Tryz.prog 150 #[.float .f64 4609434218613702656, .int .u8 102, .int .i64 (-1), .int .i64 64] w0 fun e w' => e = .returned (.string ⟨#[49, 46, 53]⟩) ∧ Below w0.heap.size w0 w' := by
  obtain ⟨i0, hi, hz0, hz1, hz2⟩ := info_parts info5
  have HI := Lib.hid hi
  have HZ0 := Lib.hid hz0
  have HZ1 := Lib.hid hz1
  have HZ2 := Lib.hid hz2
  have HE := Lib.hid henv
  have H8 := Lib.hid h8
  clear hi hz0 hz1 hz2 henv h8
  go_enter Tryz.func150, Tryz.ntmps150
  go_wp2_with (first
    | (refine wpList_make_own w0 rfl _ _ 59 rfl w0.heap.size 5 i0 (.int .u8 0) 1 Tryz.underlying59 HI.out HZ0.out HZ1.out .i64 .i64 24 24 rfl rfl rfl (by rw [HZ2.out]; omega) (by unfold maxLen; omega) (Nat.le_refl _) ?_; intro w1 hown hgrow; have HO1 := Lib.hid hown; have HB1 := Lib.hid ((Below.refl w0.heap.size w0).grown hgrow (Nat.le_refl _) (fun j hj => by cases hj)); have HE1 := Lib.hid (HE.out.later HB1.out H8.out); clear hown hgrow)
    | (go_at_call 187; refine (ftoa15f _ w0.heap.size HO1.out H8.out HE1.out).mono ?_; rintro e w' ⟨rfl, ho, hb⟩; have hcv := str_of_own [49, 46, 53] ho; have HB2 := Lib.hid hb; clear ho hb))
  go_ret
  exact ⟨rfl, HB1.out.trans HB2.out⟩
theorem form15f (w0 : World) (henv : Env w0) (h8 : 15 < w0.heap.size) : Calls Tryz.prog 101 #[.float .f64 4609434218613702656, .int .u8 102, .int .i64 (-1), .int .i64 64] w0 fun e w' => e = .returned (.string ⟨#[49, 46, 53]⟩) ∧ Below w0.heap.size w0 w' := by
  go_enter Tryz.func101, Tryz.ntmps101
  go_wp2_with (go_at_call 150; refine (iform15f _ henv h8).mono ?_; rintro e w' ⟨rfl, hb⟩)
  go_ret
  exact ⟨rfl, hb⟩
end Go.Proofs.YtagiddbfhlokcaaGreatDoor.One
/- The text of 1.5. Conditions: the cells of the two tables of powers. -/
namespace Go.Proofs.YtagiddbfhlokcaaGreatDoor.One
open Go.RowKit
theorem index0 (w : World) : Calls Tryz.prog 185 #[.string ⟨#[49, 46, 53, 101, 43, 48, 48]⟩, .string ⟨#[101]⟩] w fun e w' => e = .returned (.int .i64 3) ∧ w' = w := by
  have h := Tryz.stringslite_Index_one ⟨#[49, 46, 53, 101, 43, 48, 48]⟩ 101 w
  have e : Lib.indexByte (ByteArray.mk #[49, 46, 53, 101, 43, 48, 48]).data.toList 101 = 3 := by decide
  rw [e] at h
  exact h
theorem scut0 (w : World) : Calls Tryz.prog 149 #[.string ⟨#[49, 46, 53, 101, 43, 48, 48]⟩, .string ⟨#[101]⟩] w fun e w' => e = .returned (.tuple #[.string ⟨#[49, 46, 53]⟩, .string ⟨#[43, 48, 48]⟩, .bool true]) ∧ ∃ n, w' = w.drewN n := by
  go_enter Tryz.func149, Tryz.ntmps149
  go_wp2_with (go_at_call 185; refine (index0 _).mono ?_; rintro e w' ⟨rfl, rfl⟩)
  go_quiet (fail)
  go_wp2
  go_ret3
  exact ⟨rfl, _, rfl⟩
theorem cut0 (w : World) : Calls Tryz.prog 100 #[.string ⟨#[49, 46, 53, 101, 43, 48, 48]⟩, .string ⟨#[101]⟩] w fun e w' => e = .returned (.tuple #[.string ⟨#[49, 46, 53]⟩, .string ⟨#[43, 48, 48]⟩, .bool true]) ∧ ∃ n, w' = w.drewN n := by
  go_enter Tryz.func100, Tryz.ntmps100
  go_wp2_with (go_at_call 149; refine (scut0 _).mono ?_; rintro e w' ⟨rfl, n, rfl⟩)
  go_ret3
  exact ⟨rfl, _, rfl⟩
theorem atoi0 (w : World) : Calls Tryz.prog 102 #[.string ⟨#[43, 48, 48]⟩] w fun e w' => e = .returned (.tuple #[.int .i64 0, .nilIface]) ∧ Below w.heap.size w w' := by
  refine (Tryz.strconv_Atoi ⟨#[43, 48, 48]⟩ 0 (by decide) (by decide) w).mono ?_
  rintro e w' ⟨rfl, t, rfl⟩
  exact ⟨rfl, Lib.bytesWorld_below _ _ _⟩
theorem vfloat15 (w : World) (henv : Env w) (h8 : 15 < w.heap.size) : Calls Tryz.prog 65 #[.float .f64 4609434218613702656] w fun e w' => e = .returned (.string ⟨#[49, 46, 53]⟩) ∧ Below w.heap.size w w' := by
  go_enter Tryz.func65, Tryz.ntmps65
  go_wp2_with fail
  refine (form15e _ henv h8).mono ?_
  rintro e w1 ⟨rfl, hb1⟩
  go_wp2_with fail
  refine (cut0 _).mono ?_
  rintro e w2 ⟨rfl, n, rfl⟩
  go_wp2_with fail
  refine (atoi0 _).mono ?_
  rintro e w3 ⟨rfl, hb3⟩
  go_wp2_with fail
  refine (form15f _ (((henv.later hb1 h8).later (below_drewN (Below.refl w1.heap.size w1) n) (Nat.lt_of_lt_of_le h8 hb1.size)).later hb3 (Nat.lt_of_lt_of_le h8 hb1.size)) (Nat.lt_of_lt_of_le h8 (Nat.le_trans hb1.size hb3.size))).mono ?_
  rintro e w4 ⟨rfl, hb4⟩
  go_wp2_with fail
  go_ret
  exact ⟨rfl, ((below_drewN hb1 n).trans (hb3.mono (below_drewN hb1 n).size)).trans (hb4.mono ((below_drewN hb1 n).trans (hb3.mono (below_drewN hb1 n).size)).size)⟩
end Go.Proofs.YtagiddbfhlokcaaGreatDoor.One
/- Of, Formed and Print at 1.5, and awake. Conditions: the cells of the two tables of powers. -/
namespace Go.Proofs.YtagiddbfhlokcaaGreatDoor.One
open Go.RowKit Go.Sort
set_option maxRecDepth 100000
theorem run7 (x : Nat) (w : World) : (callFunc 55 #[.float .f64 x]).run Tryz.prog w = .ok (.value (.int .u64 x)) w := by
  rw [run_callFunc_extern Tryz.func55 (by kernel_rfl) (by kernel_rfl) (by kernel_rfl) (e := Extern.MathFloatBits.float64bits) (by kernel_rfl)]
  rfl
theorem run11 (n : Int) (w : World) : (callFunc 66 #[.int .u64 n]).run Tryz.prog w = .ok (.value (.float .f64 n.toNat)) w := by
  rw [run_callFunc_extern Tryz.func66 (by kernel_rfl) (by kernel_rfl) (by kernel_rfl) (e := Extern.MathFloatBits.float64frombits) (by kernel_rfl)]
  rfl
def vFl (x : Nat) : Value := .agg #[.int .i64 1, .int .u64 x, .string ⟨#[]⟩]
def cFl (x : Nat) : Obj := .cells #[.int .i64 1, .int .u64 x, .string ⟨#[]⟩] 53
theorem cells_fl (w : World) (x : Nat) : (w.alloc (cFl x)).cell? ⟨w.heap.size, 0, none⟩ = some (.int .i64 1) ∧ (w.alloc (cFl x)).cell? ⟨w.heap.size, 1, none⟩ = some (.int .u64 x) ∧ (w.alloc (cFl x)).cell? ⟨w.heap.size, 2, none⟩ = some (.string ⟨#[]⟩) := by
  unfold cFl
  simp
theorem results8 (tmps : Array Value) (w : World) (B : Nat) (x y z : Value) (hb : tmps.getD 2 undef = .pointer (some ⟨B, 0, none⟩)) (h : w.cell? ⟨B, 0, none⟩ = some x ∧ w.cell? ⟨B, 1, none⟩ = some y ∧ w.cell? ⟨B, 2, none⟩ = some z) :
    (results Tryz.f50 tmps).run Tryz.prog w = .ok (.agg #[x, y, z]) w := by
  have hb' : tmps[2]?.getD undef = .pointer (some ⟨B, 0, none⟩) := by simpa using hb
  simp [results, hb', h.1, h.2.1, h.2.2, go_sem]
theorem of8 (x : Nat) (w : World) : Calls Tryz.prog 50 #[.float .f64 x] w fun e w' => e = .returned (vFl x) ∧ w' = w.alloc (cFl x) := by
  have h7 := run7 x
  go_enter Tryz.func50, Tryz.ntmps50
  go_wp2_with fail
  exact bodyPost_ret (results8 _ _ w.heap.size _ _ _ rfl (cells_fl w x)) rfl ⟨rfl, rfl⟩
end Go.Proofs.YtagiddbfhlokcaaGreatDoor.One
/- Formed and Print at 1.5, and awake. Conditions: the cells of the two tables of powers. -/
namespace Go.Proofs.YtagiddbfhlokcaaGreatDoor.One
open Go.RowKit Go.Sort
set_option maxRecDepth 100000
theorem abs15 (w : World) : Calls Tryz.prog 147 #[.float .f64 4609434218613702656] w fun e w' => e = .returned (.float .f64 4609434218613702656) ∧ w = w' := by
  have h7 := run7 4609434218613702656
  have h11 := run11 4609434218613702656
  have b1 : bits BinOp.andNot IntKind.u64 4609434218613702656 9223372036854775808 = 4609434218613702656 := by kernel_rfl
  go_enter Tryz.func147, Tryz.ntmps147
  go_wp2_with fail
  go_ret
  exact ⟨rfl, rfl⟩
theorem isNaN15 (w : World) : Calls Tryz.prog 94 #[.float .f64 4609434218613702656] w fun e w' => e = .returned (.bool false) ∧ w = w' := by
  have h : FloatKind.f64.format.order 4609434218613702656 4609434218613702656 = some .eq := by kernel_rfl
  go_enter Tryz.func94, Tryz.ntmps94
  go_wp2
  go_ret
  exact ⟨rfl, rfl⟩
theorem isInf15 (w : World) : Calls Tryz.prog 95 #[.float .f64 4609434218613702656, .int .i64 0] w fun e w' => e = .returned (.bool false) ∧ w = w' := by
  have h : FloatKind.f64.format.order 4609434218613702656 9218868437227405311 = some .lt := by kernel_rfl
  go_enter Tryz.func95, Tryz.ntmps95
  go_wp2_with (go_at_call 147; refine (abs15 _).mono ?_; rintro e w' ⟨rfl, rfl⟩)
  go_ret
  exact ⟨rfl, rfl⟩
theorem formed15 (w : World) : Calls Tryz.prog 59 #[vFl 4609434218613702656] w fun e w' => e = .returned (.bool true) ∧ w' = w.alloc (cFl 4609434218613702656) := by
  have h11 : ∀ w, (callFunc 66 #[.int .u64 4609434218613702656]).run Tryz.prog w = .ok (.value (.float .f64 4609434218613702656)) w := fun w => run11 4609434218613702656 w
  unfold vFl cFl
  go_enter Tryz.func59, Tryz.ntmps59
  go_wp2_with fail
  refine (isNaN15 _).mono ?_
  rintro e w' ⟨rfl, rfl⟩
  go_wp2_with fail
  refine (isInf15 _).mono ?_
  rintro e w' ⟨rfl, rfl⟩
  go_wp2_with fail
  go_ret
  exact ⟨rfl, rfl⟩
end Go.Proofs.YtagiddbfhlokcaaGreatDoor.One
