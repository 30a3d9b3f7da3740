/- Integers, and the whole reader of a value's text: value's Int, Of, Parse. Condition: the text's length, the tables of strconv (for floats). -/
import Derived.Test.YtigicmnngppipaaGreatDoorFAH
import Derived.Test.YtigicmnngppipaaGreatDoorFAR
import Derived.Lib.AtoiErrMem
namespace Go.Proofs.YtigicmnngppipaaGreatDoor
open Go.RowKit
set_option maxRecDepth 100000
theorem all_take (l : List UInt8) : l.all PF.isDig = (l.dropWhile PF.isDig).isEmpty := (drop_all l).symm
theorem take_all {l : List UInt8} (h : l.dropWhile PF.isDig = []) : l.takeWhile PF.isDig = l := by
  have := List.takeWhile_append_dropWhile (p := PF.isDig) (l := l)
  rw [h, List.append_nil] at this
  exact this
set_option maxHeartbeats 4000000 in
theorem int43 (l : List UInt8) (hl : l.length ≤ 281474976710656) (w : World) {ev : Value} (hv : w.cell? ⟨8, 0, none⟩ = some ev) (hev : ev = .nilIface ∨ ∃ te pe, ev = .iface te pe) :
    Calls Tryz.prog 139 #[.string (bs l)] w fun e w' => e = .returned (.tuple #[.int .i64 (PF.intP l).1, .int .i64 (PF.intP l).2]) ∧ Below w.heap.size w w' := by
  have hbl : (PF.body l).length ≤ 281474976710656 := by
    unfold PF.body
    split
    · rename_i r; simp at hl; omega
    · exact hl
  have M84 := Lib.hid (fun w => minus84 l w)
  have M83 := Lib.hid (fun w => digits83 (PF.body l) hbl w)
  have MR := Lib.hid (fun h w hv => Tryz.strconv_ParseInt_10_at64_range (bs l) (by rw [bs_size]; exact hl) h ev w hv hev)
  have MO := Lib.hid (fun v h w => Tryz.strconv_ParseInt_10_at64_ok (bs l) (by rw [bs_size]; omega) v h w)
  have HV := Lib.hid hv
  clear hev hv
  go_enter Tryz.func139, Tryz.ntmps139
  go_wp2_with fail
  refine (M84.out _).mono ?_
  rintro e w' ⟨rfl, rfl⟩
  go_wp2_with fail
  refine (M83.out _).mono ?_
  rintro e w2 ⟨rfl, hb2⟩
  have HB2 := Lib.hid hb2
  clear hb2
  obtain ⟨n, hn⟩ : ∃ n, ((PF.body l).takeWhile PF.isDig).length = n := ⟨_, rfl⟩
  have HN := Lib.hid hn
  rw [hn]
  have HBL := Lib.hid hbl
  have htl := take_drop_len (PF.body l)
  rw [hn] at htl
  have HTL := Lib.hid htl
  clear hn hbl htl
  rcases list_cases ((PF.body l).dropWhile PF.isDig) with e | ⟨c, t, e⟩
  · have e0 := bs_nil e
    have hnl : n = (PF.body l).length := by have := HTL.out; rw [e] at this; simpa using this
    have hall : (PF.body l).all PF.isDig = true := by rw [all_take, e]; rfl
    clear e
    by_cases h1 : n < 1
    · have h1z : (n : Int) < 1 := by omega
      have HI : Hid (PF.intP l = (0, 2)) := Lib.hid (by unfold PF.intP; rw [if_neg (by omega)])
      clear hnl hall
      go_wp2_with fail
      go_ret2
      exact ⟨by rw [HI.out]; rfl, HB2.out⟩
    · have h1z : ¬((n : Int) < 1) := by omega
      by_cases h2 : 25 < n
      · have h2z : (25 : Int) < n := by omega
        have HI : Hid (PF.intP l = (0, 2)) := Lib.hid (by unfold PF.intP; rw [if_neg (by omega)])
        clear hnl hall
        go_wp2_with fail
        go_ret2
        exact ⟨by rw [HI.out]; rfl, HB2.out⟩
      · have h2z : ¬((25 : Int) < n) := by omega
        have hp := PF.parseInt_eq (l := l) (by omega) hall
        have hi : PF.intP l = if PF.isNeg l then (if PF.numD (PF.body l) ≤ 9223372036854775808 then (-(PF.numD (PF.body l) : Int), 0) else (0, 3)) else (if PF.numD (PF.body l) < 9223372036854775808 then ((PF.numD (PF.body l) : Int), 0) else (0, 3)) := by
          unfold PF.intP; rw [if_pos ⟨by omega, by omega, hall⟩]
        have both : (∃ v, Lib.parseIntB 64 l = .ok v ∧ PF.intP l = (v, 0)) ∨ (Lib.parseIntB 64 l = .range ∧ PF.intP l = (0, 3)) := by
          rw [hp, hi]
          split <;> split
          · exact .inl ⟨_, rfl, rfl⟩
          · exact .inr ⟨rfl, rfl⟩
          · exact .inl ⟨_, rfl, rfl⟩
          · exact .inr ⟨rfl, rfl⟩
        clear hp hi hnl hall
        rcases both with ⟨v, hp, hi⟩ | ⟨hp, hi⟩
        · have HI := Lib.hid hi
          have M := Lib.hid (MO.out v (by rw [bs_list]; exact hp))
          clear hp hi
          go_wp2_with fail
          refine (M.out _).mono ?_
          rintro e w3 ⟨rfl, hw3⟩
          have HB3 : Hid (Below w.heap.size w w3) := Lib.hid (by
            rcases hw3 with rfl | ⟨t, rfl⟩
            · exact HB2.out
            · exact HB2.out.trans ((Lib.bytesWorld_below _ _ _).mono HB2.out.size))
          clear hw3
          go_wp2_with fail
          go_ret2
          exact ⟨by rw [HI.out]; rfl, HB3.out⟩
        · have HI := Lib.hid hi
          have h3 := cell_lt HV.out
          have M := Lib.hid (MR.out (by rw [bs_list]; exact hp) w2 ((HB2.out.cell h3).trans HV.out))
          clear hp hi h3
          go_wp2_with fail
          refine (M.out).mono ?_
          rintro e w3 ⟨N, rfl, _, _, hw3⟩
          have HB3 := Lib.hid (HB2.out.trans (hw3.mono HB2.out.size))
          clear hw3
          go_wp2_with fail
          go_ret2
          exact ⟨by rw [HI.out]; rfl, HB3.out⟩
  · obtain ⟨hsz, hg, hem, h0i, h1i, htl⟩ := bs_head e
    have HI : Hid (PF.intP l = (0, 2)) := Lib.hid (by
      unfold PF.intP; rw [if_neg (by rintro ⟨_, _, h⟩; rw [all_take, e] at h; cases h)])
    clear e htl
    by_cases h1 : n < 1
    · have h1z : (n : Int) < 1 := by omega
      go_wp2_with fail
      go_ret2
      exact ⟨by rw [HI.out]; rfl, HB2.out⟩
    · have h1z : ¬((n : Int) < 1) := by omega
      by_cases h2 : 25 < n
      · have h2z : (25 : Int) < n := by omega
        go_wp2_with fail
        go_ret2
        exact ⟨by rw [HI.out]; rfl, HB2.out⟩
      · have h2z : ¬((25 : Int) < n) := by omega
        go_wp2_with fail
        go_ret2
        exact ⟨by rw [HI.out]; rfl, HB2.out⟩
theorem run55 (b : Nat) (w : World) : (callFunc 171 #[.float .f64 b]).run Tryz.prog w = .ok (.value (.int .u64 b)) w := by
  rw [run_callFunc_extern Tryz.func171 (by kernel_rfl) (by kernel_rfl) (by kernel_rfl) (e := Extern.MathFloatBits.float64bits) (by kernel_rfl)]
  rfl
theorem results1 {F : Func} (hF : F.results = #[.cell 2 28]) {tmps : Array Value} {w2 : World} {B : Nat} {x y z : Value} (hb : tmps.getD 2 undef = .pointer (some ⟨B, 0, none⟩)) (hk : w2.heap[B]? = some (.cells #[x, y, z] 28 (0, 0))) :
    (results F tmps).run Tryz.prog w2 = .ok (.agg #[x, y, z]) w2 := by
  have c0 : w2.cell? ⟨B, 0, none⟩ = some x := Lib.cell_of_heap hk 0
  have c1 : w2.cell? ⟨B, 1, none⟩ = some y := Lib.cell_of_heap hk 1
  have c2 : w2.cell? ⟨B, 2, none⟩ = some z := Lib.cell_of_heap hk 2
  have hb' : tmps[2]?.getD undef = .pointer (some ⟨B, 0, none⟩) := by simpa using hb
  simp [results, hF, hb', c0, c1, c2, go_sem]
theorem results2 {F : Func} (hF : F.results = #[.cell 2 28, .tmp 3]) {tmps : Array Value} {w2 : World} {B : Nat} {x y z : Value} (hb : tmps.getD 2 undef = .pointer (some ⟨B, 0, none⟩)) (hk : w2.heap[B]? = some (.cells #[x, y, z] 28 (0, 0))) :
    (results F tmps).run Tryz.prog w2 = .ok (.tuple #[.agg #[x, y, z], tmps.getD 3 undef]) w2 := by
  have c0 : w2.cell? ⟨B, 0, none⟩ = some x := Lib.cell_of_heap hk 0
  have c1 : w2.cell? ⟨B, 1, none⟩ = some y := Lib.cell_of_heap hk 1
  have c2 : w2.cell? ⟨B, 2, none⟩ = some z := Lib.cell_of_heap hk 2
  have hb' : tmps[2]?.getD undef = .pointer (some ⟨B, 0, none⟩) := by simpa using hb
  simp [results, hF, hb', c0, c1, c2, go_sem]
theorem newest (w : World) (o : Obj) : (w.alloc o).heap[w.heap.size]? = some o := by
  show (w.heap.push _)[w.heap.size]? = _
  rw [Array.getElem?_push_size]
theorem of50 (b : Nat) (w : World) : Calls Tryz.prog 142 #[.float .f64 b] w fun e w' => e = .returned (val 1 b ⟨#[]⟩) ∧ Below w.heap.size w w' := by
  have h55 := run55 b
  go_enter Tryz.func142, Tryz.ntmps142
  go_wp2_with fail
  refine bodyPost_ret (results1 (F := Tryz.f142) rfl rfl (newest _ _)) rfl ?_
  exact ⟨rfl, (Below.refl _ _).alloc (Nat.le_refl _) _⟩
def trues : List (List UInt8) := [[116], [84], [116, 114, 117, 101], [84, 114, 117, 101], [84, 82, 85, 69]]
def falses : List (List UInt8) := [[102], [70], [102, 97, 108, 115, 101], [70, 97, 108, 115, 101], [70, 65, 76, 83, 69]]
/-- A value's text read: the value, and the error's number. -/
def valP (T : Int → Nat × Nat) (F : Nat → Nat) (l : List UInt8) : Value × Int :=
  if l ∈ trues then (val 3 1 ⟨#[]⟩, 0) else if l ∈ falses then (val 3 0 ⟨#[]⟩, 0)
  else if headIs 34 l then unqV (PF.unq l.tail)
  else if Lib.hasSuffix l [105] then (if (PF.intP (Lib.trimSuffix l [105])).2 = 0 then (val 2 (IntKind.wrap .u64 (PF.intP (Lib.trimSuffix l [105])).1) ⟨#[]⟩, 0) else (val 0 0 ⟨#[]⟩, (PF.intP (Lib.trimSuffix l [105])).2))
  else if PF.decB l then (if (PF.atof T F l).2 then (val 0 0 ⟨#[]⟩, 3) else (val 1 (PF.atof T F l).1 ⟨#[]⟩, 0))
  else (val 0 0 ⟨#[]⟩, 2)
theorem cut57 (l : List UInt8) (hl : l.length ≤ 281474976710656) (w : World) : Calls Tryz.prog 138 #[.string (bs l), .string ⟨#[105]⟩] w fun e w' => e = .returned (.tuple #[.string (bs (Lib.trimSuffix l [105])), .bool (Lib.hasSuffix l [105])]) ∧ w = w' := by
  refine (Tryz.strings_CutSuffix (bs l) ⟨#[105]⟩ w (by rw [bs_size]; omega)).mono ?_
  rintro e w' ⟨rfl, h⟩
  refine ⟨?_, h.symm⟩
  rw [bs_list]
  rfl
theorem trim_len (l : List UInt8) : (Lib.trimSuffix l [105]).length ≤ l.length := by
  unfold Lib.trimSuffix
  split <;> simp
theorem resF {w w0 w' : World} (h0 : w.alloc (.cells #[.int .i64 0, .int .u64 0, .string ⟨#[]⟩] 28 (0, 0)) = w0) (h : Below w0.heap.size w0 w') :
    w'.cell? ⟨w.heap.size, 0, none⟩ = some (.int .i64 0) ∧ w'.cell? ⟨w.heap.size, 1, none⟩ = some (.int .u64 0) ∧ w'.cell? ⟨w.heap.size, 2, none⟩ = some (.string ⟨#[]⟩) ∧
    w'.frozen? ⟨w.heap.size, 0, none⟩ = false ∧ w'.frozen? ⟨w.heap.size, 1, none⟩ = false ∧ w'.frozen? ⟨w.heap.size, 2, none⟩ = false ∧ w'.heap[w.heap.size]? = some (.cells #[.int .i64 0, .int .u64 0, .string ⟨#[]⟩] 28 (0, 0)) ∧ Below w.heap.size w w' := by
  subst h0
  apply resFacts
  simp only [World.size_alloc] at h
  exact h
theorem unqV_val (o : Option (List UInt8)) : ∃ k b t n, unqV o = (val k b t, n) := by
  unfold unqV
  split
  · exact ⟨_, _, _, _, rfl⟩
  · split
    · exact ⟨_, _, _, _, rfl⟩
    · exact ⟨_, _, _, _, rfl⟩
set_option maxHeartbeats 8000000 in
theorem parse22 {T : Nat → Nat × Nat} {F : Nat → Nat} {B2 o2 B o : Nat} {S : Nat → ByteArray} (l : List UInt8) (hlen : l.length ≤ 140737488355328) (w : World) (hw : PEnv T F B2 o2 B o S w) {ev : Value} (hv : w.cell? ⟨8, 0, none⟩ = some ev) (hev : ev = .nilIface ∨ ∃ te pe, ev = .iface te pe) :
    Calls Tryz.prog 116 #[.string (bs l)] w fun e w' => e = .returned (.tuple #[(valP (tabF T) F l).1, .int .i64 (valP (tabF T) F l).2]) ∧ Below w.heap.size w w' := by
  by_cases ht : l ∈ trues
  · have HP : Hid (valP (tabF T) F l = (val 3 1 ⟨#[]⟩, 0)) := Lib.hid (by unfold valP; rw [if_pos ht])
    simp only [trues, List.mem_cons, List.not_mem_nil, or_false] at ht
    clear hlen hw hv hev
    rcases ht with hl | hl | hl | hl | hl
    · have t0 : ((bs l).toList == [116]) = true := by rw [bs_toList, hl]; rfl
      clear hl
      go_enter Tryz.func116, Tryz.ntmps116
      go_wp2_with fail
      refine bodyPost_ret (results2 (F := Tryz.f116) rfl rfl (newest _ _)) rfl ?_
      exact ⟨by rw [HP.out]; rfl, (Below.refl _ _).alloc (Nat.le_refl _) _⟩
    · have t0 : ((bs l).toList == [116]) = false := by rw [bs_toList, hl]; rfl
      have t1 : ((bs l).toList == [84]) = true := by rw [bs_toList, hl]; rfl
      clear hl
      go_enter Tryz.func116, Tryz.ntmps116
      go_wp2_with fail
      refine bodyPost_ret (results2 (F := Tryz.f116) rfl rfl (newest _ _)) rfl ?_
      exact ⟨by rw [HP.out]; rfl, (Below.refl _ _).alloc (Nat.le_refl _) _⟩
    · have t0 : ((bs l).toList == [116]) = false := by rw [bs_toList, hl]; rfl
      have t1 : ((bs l).toList == [84]) = false := by rw [bs_toList, hl]; rfl
      have t2 : ((bs l).toList == [116, 114, 117, 101]) = true := by rw [bs_toList, hl]; rfl
      clear hl
      go_enter Tryz.func116, Tryz.ntmps116
      go_wp2_with fail
      refine bodyPost_ret (results2 (F := Tryz.f116) rfl rfl (newest _ _)) rfl ?_
      exact ⟨by rw [HP.out]; rfl, (Below.refl _ _).alloc (Nat.le_refl _) _⟩
    · have t0 : ((bs l).toList == [116]) = false := by rw [bs_toList, hl]; rfl
      have t1 : ((bs l).toList == [84]) = false := by rw [bs_toList, hl]; rfl
      have t2 : ((bs l).toList == [116, 114, 117, 101]) = false := by rw [bs_toList, hl]; rfl
      have t3 : ((bs l).toList == [84, 114, 117, 101]) = true := by rw [bs_toList, hl]; rfl
      clear hl
      go_enter Tryz.func116, Tryz.ntmps116
      go_wp2_with fail
      refine bodyPost_ret (results2 (F := Tryz.f116) rfl rfl (newest _ _)) rfl ?_
      exact ⟨by rw [HP.out]; rfl, (Below.refl _ _).alloc (Nat.le_refl _) _⟩
    · have t0 : ((bs l).toList == [116]) = false := by rw [bs_toList, hl]; rfl
      have t1 : ((bs l).toList == [84]) = false := by rw [bs_toList, hl]; rfl
      have t2 : ((bs l).toList == [116, 114, 117, 101]) = false := by rw [bs_toList, hl]; rfl
      have t3 : ((bs l).toList == [84, 114, 117, 101]) = false := by rw [bs_toList, hl]; rfl
      have t4 : ((bs l).toList == [84, 82, 85, 69]) = true := by rw [bs_toList, hl]; rfl
      clear hl
      go_enter Tryz.func116, Tryz.ntmps116
      go_wp2_with fail
      refine bodyPost_ret (results2 (F := Tryz.f116) rfl rfl (newest _ _)) rfl ?_
      exact ⟨by rw [HP.out]; rfl, (Below.refl _ _).alloc (Nat.le_refl _) _⟩
  · by_cases hf : l ∈ falses
    · have HP : Hid (valP (tabF T) F l = (val 3 0 ⟨#[]⟩, 0)) := Lib.hid (by unfold valP; rw [if_neg ht, if_pos hf])
      simp only [falses, List.mem_cons, List.not_mem_nil, or_false] at hf
      clear hlen hw hv hev ht
      rcases hf with hl | hl | hl | hl | hl
      · have t0 : ((bs l).toList == [116]) = false := by rw [bs_toList, hl]; rfl
        have t1 : ((bs l).toList == [84]) = false := by rw [bs_toList, hl]; rfl
        have t2 : ((bs l).toList == [116, 114, 117, 101]) = false := by rw [bs_toList, hl]; rfl
        have t3 : ((bs l).toList == [84, 114, 117, 101]) = false := by rw [bs_toList, hl]; rfl
        have t4 : ((bs l).toList == [84, 82, 85, 69]) = false := by rw [bs_toList, hl]; rfl
        have t5 : ((bs l).toList == [102]) = true := by rw [bs_toList, hl]; rfl
        clear hl
        go_enter Tryz.func116, Tryz.ntmps116
        go_wp2_with fail
        refine bodyPost_ret (results2 (F := Tryz.f116) rfl rfl (newest _ _)) rfl ?_
        exact ⟨by rw [HP.out]; rfl, (Below.refl _ _).alloc (Nat.le_refl _) _⟩
      · have t0 : ((bs l).toList == [116]) = false := by rw [bs_toList, hl]; rfl
        have t1 : ((bs l).toList == [84]) = false := by rw [bs_toList, hl]; rfl
        have t2 : ((bs l).toList == [116, 114, 117, 101]) = false := by rw [bs_toList, hl]; rfl
        have t3 : ((bs l).toList == [84, 114, 117, 101]) = false := by rw [bs_toList, hl]; rfl
        have t4 : ((bs l).toList == [84, 82, 85, 69]) = false := by rw [bs_toList, hl]; rfl
        have t5 : ((bs l).toList == [102]) = false := by rw [bs_toList, hl]; rfl
        have t6 : ((bs l).toList == [70]) = true := by rw [bs_toList, hl]; rfl
        clear hl
        go_enter Tryz.func116, Tryz.ntmps116
        go_wp2_with fail
        refine bodyPost_ret (results2 (F := Tryz.f116) rfl rfl (newest _ _)) rfl ?_
        exact ⟨by rw [HP.out]; rfl, (Below.refl _ _).alloc (Nat.le_refl _) _⟩
      · have t0 : ((bs l).toList == [116]) = false := by rw [bs_toList, hl]; rfl
        have t1 : ((bs l).toList == [84]) = false := by rw [bs_toList, hl]; rfl
        have t2 : ((bs l).toList == [116, 114, 117, 101]) = false := by rw [bs_toList, hl]; rfl
        have t3 : ((bs l).toList == [84, 114, 117, 101]) = false := by rw [bs_toList, hl]; rfl
        have t4 : ((bs l).toList == [84, 82, 85, 69]) = false := by rw [bs_toList, hl]; rfl
        have t5 : ((bs l).toList == [102]) = false := by rw [bs_toList, hl]; rfl
        have t6 : ((bs l).toList == [70]) = false := by rw [bs_toList, hl]; rfl
        have t7 : ((bs l).toList == [102, 97, 108, 115, 101]) = true := by rw [bs_toList, hl]; rfl
        clear hl
        go_enter Tryz.func116, Tryz.ntmps116
        go_wp2_with fail
        refine bodyPost_ret (results2 (F := Tryz.f116) rfl rfl (newest _ _)) rfl ?_
        exact ⟨by rw [HP.out]; rfl, (Below.refl _ _).alloc (Nat.le_refl _) _⟩
      · have t0 : ((bs l).toList == [116]) = false := by rw [bs_toList, hl]; rfl
        have t1 : ((bs l).toList == [84]) = false := by rw [bs_toList, hl]; rfl
        have t2 : ((bs l).toList == [116, 114, 117, 101]) = false := by rw [bs_toList, hl]; rfl
        have t3 : ((bs l).toList == [84, 114, 117, 101]) = false := by rw [bs_toList, hl]; rfl
        have t4 : ((bs l).toList == [84, 82, 85, 69]) = false := by rw [bs_toList, hl]; rfl
        have t5 : ((bs l).toList == [102]) = false := by rw [bs_toList, hl]; rfl
        have t6 : ((bs l).toList == [70]) = false := by rw [bs_toList, hl]; rfl
        have t7 : ((bs l).toList == [102, 97, 108, 115, 101]) = false := by rw [bs_toList, hl]; rfl
        have t8 : ((bs l).toList == [70, 97, 108, 115, 101]) = true := by rw [bs_toList, hl]; rfl
        clear hl
        go_enter Tryz.func116, Tryz.ntmps116
        go_wp2_with fail
        refine bodyPost_ret (results2 (F := Tryz.f116) rfl rfl (newest _ _)) rfl ?_
        exact ⟨by rw [HP.out]; rfl, (Below.refl _ _).alloc (Nat.le_refl _) _⟩
      · have t0 : ((bs l).toList == [116]) = false := by rw [bs_toList, hl]; rfl
        have t1 : ((bs l).toList == [84]) = false := by rw [bs_toList, hl]; rfl
        have t2 : ((bs l).toList == [116, 114, 117, 101]) = false := by rw [bs_toList, hl]; rfl
        have t3 : ((bs l).toList == [84, 114, 117, 101]) = false := by rw [bs_toList, hl]; rfl
        have t4 : ((bs l).toList == [84, 82, 85, 69]) = false := by rw [bs_toList, hl]; rfl
        have t5 : ((bs l).toList == [102]) = false := by rw [bs_toList, hl]; rfl
        have t6 : ((bs l).toList == [70]) = false := by rw [bs_toList, hl]; rfl
        have t7 : ((bs l).toList == [102, 97, 108, 115, 101]) = false := by rw [bs_toList, hl]; rfl
        have t8 : ((bs l).toList == [70, 97, 108, 115, 101]) = false := by rw [bs_toList, hl]; rfl
        have t9 : ((bs l).toList == [70, 65, 76, 83, 69]) = true := by rw [bs_toList, hl]; rfl
        clear hl
        go_enter Tryz.func116, Tryz.ntmps116
        go_wp2_with fail
        refine bodyPost_ret (results2 (F := Tryz.f116) rfl rfl (newest _ _)) rfl ?_
        exact ⟨by rw [HP.out]; rfl, (Below.refl _ _).alloc (Nat.le_refl _) _⟩
    · have t0 : ((bs l).toList == [116]) = false := by rw [bs_toList, beq_eq_false_iff_ne]; intro e; exact ht (by rw [e]; decide)
      have t1 : ((bs l).toList == [84]) = false := by rw [bs_toList, beq_eq_false_iff_ne]; intro e; exact ht (by rw [e]; decide)
      have t2 : ((bs l).toList == [116, 114, 117, 101]) = false := by rw [bs_toList, beq_eq_false_iff_ne]; intro e; exact ht (by rw [e]; decide)
      have t3 : ((bs l).toList == [84, 114, 117, 101]) = false := by rw [bs_toList, beq_eq_false_iff_ne]; intro e; exact ht (by rw [e]; decide)
      have t4 : ((bs l).toList == [84, 82, 85, 69]) = false := by rw [bs_toList, beq_eq_false_iff_ne]; intro e; exact ht (by rw [e]; decide)
      have t5 : ((bs l).toList == [102]) = false := by rw [bs_toList, beq_eq_false_iff_ne]; intro e; exact hf (by rw [e]; decide)
      have t6 : ((bs l).toList == [70]) = false := by rw [bs_toList, beq_eq_false_iff_ne]; intro e; exact hf (by rw [e]; decide)
      have t7 : ((bs l).toList == [102, 97, 108, 115, 101]) = false := by rw [bs_toList, beq_eq_false_iff_ne]; intro e; exact hf (by rw [e]; decide)
      have t8 : ((bs l).toList == [70, 97, 108, 115, 101]) = false := by rw [bs_toList, beq_eq_false_iff_ne]; intro e; exact hf (by rw [e]; decide)
      have t9 : ((bs l).toList == [70, 65, 76, 83, 69]) = false := by rw [bs_toList, beq_eq_false_iff_ne]; intro e; exact hf (by rw [e]; decide)
      obtain ⟨V, hV⟩ : ∃ V, valP (tabF T) F l = V := ⟨_, rfl⟩
      rw [hV]
      have hv2 := hV
      unfold valP at hv2
      rw [if_neg ht, if_neg hf] at hv2
      have HV := Lib.hid hv2
      obtain ⟨bq, hbq⟩ : ∃ b, headIs 34 l = b := ⟨_, rfl⟩
      have M41 := Lib.hid (fun w => hasP l 34 w)
      rw [hbq] at M41 HV
      have HBQ := Lib.hid hbq
      have HB0 : Hid (Below (w.heap.size + 1) (w.alloc (.cells #[.int .i64 0, .int .u64 0, .string ⟨#[]⟩] 28 (0, 0))) (w.alloc (.cells #[.int .i64 0, .int .u64 0, .string ⟨#[]⟩] 28 (0, 0)))) := Lib.hid (Below.refl _ _)
      have HW := Lib.hid (hw.below ((Below.refl w.heap.size w).alloc (Nat.le_refl _) (.cells #[.int .i64 0, .int .u64 0, .string ⟨#[]⟩] 28 (0, 0))))
      have HE := Lib.hid ((((Below.refl w.heap.size w).alloc (Nat.le_refl _) (.cells #[.int .i64 0, .int .u64 0, .string ⟨#[]⟩] 28 (0, 0))).cell (cell_lt hv)).trans hv)
      obtain ⟨w0, hw0⟩ : ∃ w0, w.alloc (.cells #[.int .i64 0, .int .u64 0, .string ⟨#[]⟩] 28 (0, 0)) = w0 := ⟨_, rfl⟩
      have HW0 := Lib.hid hw0
      have hs0 : w0.heap.size = w.heap.size + 1 := by rw [← hw0]; simp
      have HS0 := Lib.hid hs0
      have HEV := Lib.hid hev
      clear hv2 hV hbq ht hf hw hv hev hs0
      go_enter Tryz.func116, Tryz.ntmps116
      go_wp2_with fail
      rw [hw0] at HB0 HW HE
      clear hw0
      refine (M41.out _).mono ?_
      rintro e w' ⟨rfl, rfl⟩
      cases bq with
      | true =>
        rcases list_cases l with e | ⟨a, r, e⟩
        · rw [e] at HBQ; exact absurd HBQ.out (by decide)
        · rw [if_pos rfl, e] at HV
          have MU := Lib.hid (fun w => unquote56 a r (by rw [e] at hlen; simp at hlen; omega) w)
          rw [← e] at MU
          have HVV : Hid (unqV (PF.unq r) = V) := Lib.hid HV.out
          rw [HVV.out] at MU
          obtain ⟨k, b, t, n, hval⟩ := unqV_val (PF.unq r)
          rw [HVV.out] at hval
          subst hval
          clear e t0 t1 t2 t3 t4 t5 t6 t7 t8 t9
          unfold val at *
          go_wp2_with fail
          refine (MU.out _).mono ?_
          rintro e w2 ⟨rfl, hb2⟩
          have HB2 := Lib.hid hb2
          clear hb2
          obtain ⟨f0, f1, f2, g0, g1, g2, hk, hbw⟩ := resF HW0.out HB2.out
          have HBW := Lib.hid hbw
          have HK := Lib.hid hk
          clear hk hbw
          go_wp2_with fail
          refine bodyPost_ret (results53 (F := Tryz.f116) rfl rfl HK.out) rfl ?_
          exact ⟨by skip; rfl, ((HBW.out.setCell (Nat.le_refl _) _).setCell (Nat.le_refl _) _).setCell (Nat.le_refl _) _⟩
      | false =>
        rw [if_neg (by decide)] at HV
        have M57 := Lib.hid (fun w => cut57 l (by omega) w)
        obtain ⟨u, hu⟩ : ∃ u, Lib.trimSuffix l [105] = u := ⟨_, rfl⟩
        obtain ⟨bi, hbi⟩ : ∃ b, Lib.hasSuffix l [105] = b := ⟨_, rfl⟩
        have hul := trim_len l
        rw [hu] at HV M57 hul
        rw [hbi] at HV M57
        clear t0 t1 t2 t3 t4 t5 t6 t7 t8 t9 hu hbi
        go_wp2_with fail
        refine (M57.out _).mono ?_
        rintro e w' ⟨rfl, rfl⟩
        cases bi with
        | true =>
          rw [if_pos rfl] at HV
          have MI := Lib.hid (int43 u (by omega) w0 HE.out HEV.out)
          obtain ⟨xx, hxx⟩ : ∃ x, PF.intP u = x := ⟨_, rfl⟩
          rw [hxx] at MI HV
          obtain ⟨i, n⟩ := xx
          clear hxx
          simp only at MI HV
          go_wp2_with fail
          refine MI.out.mono ?_
          rintro e w2 ⟨rfl, hb2⟩
          have HB2 := Lib.hid hb2
          clear hb2
          by_cases hn : n = 0
          · rw [if_pos hn] at HV
            have hnb : (n == 0) = true := by rw [hn]; rfl
            clear hn
            obtain ⟨f0, f1, f2, g0, g1, g2, hk, hbw⟩ := resF HW0.out HB2.out
            have HBW := Lib.hid hbw
            have HK := Lib.hid hk
            clear hk hbw
            go_wp2_with fail
            refine bodyPost_ret (results53 (F := Tryz.f116) rfl rfl HK.out) rfl ?_
            exact ⟨by rw [← HV.out]; rfl, ((HBW.out.setCell (Nat.le_refl _) _).setCell (Nat.le_refl _) _).setCell (Nat.le_refl _) _⟩
          · rw [if_neg hn] at HV
            have hnb : (n == 0) = false := by rw [beq_eq_false_iff_ne]; exact hn
            clear hn
            obtain ⟨f0, f1, f2, g0, g1, g2, hk, hbw⟩ := resF HW0.out HB2.out
            have HBW := Lib.hid hbw
            have HK := Lib.hid hk
            clear hk hbw
            go_wp2_with fail
            refine bodyPost_ret (results53 (F := Tryz.f116) rfl rfl HK.out) rfl ?_
            exact ⟨by rw [← HV.out]; rfl, ((HBW.out.setCell (Nat.le_refl _) _).setCell (Nat.le_refl _) _).setCell (Nat.le_refl _) _⟩
        | false =>
          rw [if_neg (by decide)] at HV
          have M58 := Lib.hid (decimal58 l (by omega) w0)
          obtain ⟨bd, hbd⟩ : ∃ b, PF.decB l = b := ⟨_, rfl⟩
          have HBD := Lib.hid hbd
          rw [hbd] at HV M58
          clear hbd
          go_wp2_with fail
          refine M58.out.mono ?_
          rintro e w2 ⟨rfl, hb2⟩
          have HB2 := Lib.hid hb2
          clear hb2
          cases bd with
          | false =>
            rw [if_neg (by decide)] at HV
            obtain ⟨f0, f1, f2, g0, g1, g2, hk, hbw⟩ := resF HW0.out HB2.out
            have HBW := Lib.hid hbw
            have HK := Lib.hid hk
            clear hk hbw
            go_wp2_with fail
            refine bodyPost_ret (results53 (F := Tryz.f116) rfl rfl HK.out) rfl ?_
            exact ⟨by rw [← HV.out]; rfl, ((HBW.out.setCell (Nat.le_refl _) _).setCell (Nat.le_refl _) _).setCell (Nat.le_refl _) _⟩
          | true =>
            rw [if_pos rfl] at HV
            have MP := Lib.hid (parse54 (bs l) (by rw [bs_list]; exact HBD.out) (HW.out.below HB2.out) ((HB2.out.cell (cell_lt HE.out)).trans HE.out) HEV.out)
            rw [bs_list] at MP
            obtain ⟨xx, hxx⟩ : ∃ x, PF.atof (tabF T) F l = x := ⟨_, rfl⟩
            rw [hxx] at MP HV
            obtain ⟨x, ov⟩ := xx
            clear hxx
            simp only at MP HV
            go_wp2_with fail
            refine MP.out.mono ?_
            rintro e w3 ⟨h1, h2, hb3⟩
            have HB3 := Lib.hid (HB2.out.trans (hb3.mono HB2.out.size))
            simp only at h1 h2
            cases ov with
            | true =>
              obtain ⟨N, rfl⟩ := h2 rfl
              clear h1 h2 hb3
              rw [if_pos rfl] at HV
              obtain ⟨f0, f1, f2, g0, g1, g2, hk, hbw⟩ := resF HW0.out HB3.out
              have HBW := Lib.hid hbw
              have HK := Lib.hid hk
              clear hk hbw
              go_wp2_with fail
              refine bodyPost_ret (results53 (F := Tryz.f116) rfl rfl HK.out) rfl ?_
              exact ⟨by rw [← HV.out]; rfl, ((HBW.out.setCell (Nat.le_refl _) _).setCell (Nat.le_refl _) _).setCell (Nat.le_refl _) _⟩
            | false =>
              obtain rfl := h1 rfl
              clear h1 h2 hb3
              rw [if_neg (by decide)] at HV
              go_wp2_with fail
              refine (of50 x _).mono ?_
              rintro e w4 ⟨rfl, hb4⟩
              have HB4 := Lib.hid (HB3.out.trans (hb4.mono HB3.out.size))
              clear hb4
              unfold val at *
              obtain ⟨f0, f1, f2, g0, g1, g2, hk, hbw⟩ := resF HW0.out HB4.out
              have HBW := Lib.hid hbw
              have HK := Lib.hid hk
              clear hk hbw
              go_wp2_with fail
              refine bodyPost_ret (results53 (F := Tryz.f116) rfl rfl HK.out) rfl ?_
              exact ⟨by rw [← HV.out]; rfl, ((HBW.out.setCell (Nat.le_refl _) _).setCell (Nat.le_refl _) _).setCell (Nat.le_refl _) _⟩
end Go.Proofs.YtigicmnngppipaaGreatDoor
