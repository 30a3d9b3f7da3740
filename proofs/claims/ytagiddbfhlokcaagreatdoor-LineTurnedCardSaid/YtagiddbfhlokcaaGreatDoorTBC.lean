/- Several texts of this proof, laid together. Conditions: as each says. -/
import Derived.Test.YtagiddbfhlokcaaGreatDoorTAZ
import Derived.Test.YtagiddbfhlokcaaGreatDoorTBB
import Derived.Lib.ItoaLen
import Derived.Test.YtagiddbfhlokcaaGreatDoorTAU
/- The reference's text of a value. Conditions: the tables of powers. -/
namespace Go.Proofs.YtagiddbfhlokcaaGreatDoor.Ff
open Go.RowKit Go.Sort Ser
set_option maxRecDepth 100000
/-- 64 bits as a signed number. -/
def sg64 (x : Nat) : Int := if x < 9223372036854775808 then (x : Int) else (x : Int) - 18446744073709551616
theorem sg64_wrap (x : Nat) (hx : x < 18446744073709551616) : IntKind.i64.wrap (x : Int) = sg64 x ∧ -9223372036854775808 ≤ sg64 x ∧ sg64 x ≤ 9223372036854775807 := by
  unfold sg64
  rw [IntKind.wrap_i64]
  split <;> omega
/-- The text of a value that is formed. -/
def pv (T : Nat → Nat × Nat) (k : Int) (x : Nat) (t : ByteArray) : List UInt8 :=
  if k = 1 then PF.flText (tabF T) x else if k = 2 then Lib.itoa (sg64 x) ++ [105] else if k = 3 then (if x = 1 then [116, 114, 117, 101] else [102, 97, 108, 115, 101]) else PF.quoted t.data.toList
theorem formInt_30 (n : Int) (h0 : -9223372036854775808 ≤ n) (h1 : n ≤ 9223372036854775807) (w : World) (htab : Lib.TabIs Tryz.prog w "internal/strconv.uint64pow10" .u64 Lib.pow10Tab) :
    Calls Tryz.prog 30 #[.int .i64 n, .int .i64 10] w fun e w' => e = .returned (.string (bs (Lib.itoa n))) ∧ Below w.heap.size w w' := by
  refine (Tryz.strconv_FormatInt_10 n h0 h1 w htab).mono ?_
  rintro e w' ⟨rfl, k, os, rfl⟩
  exact ⟨rfl, grow_bel _ _ _⟩
theorem itoa_len20 {n : Int} (h0 : -9223372036854775808 ≤ n) (h1 : n ≤ 9223372036854775807) : (Lib.itoa n).length ≤ 21 := by
  unfold Lib.itoa
  split
  · rw [List.length_cons, Lib.decDigits_length]
    have := Lib.nDigits_le20 n.natAbs (by omega)
    omega
  · rw [Lib.decDigits_length]
    have := Lib.nDigits_le20 n.toNat (by omega)
    omega
def RPost (T : Nat → Nat × Nat) (k : Int) (x : Nat) (t : ByteArray) (w : World) (e : Ending) (w' : World) : Prop :=
  e = .returned (.tuple #[.string (if formV k (x : Int) t then bs (pv T k x t) else ⟨#[]⟩), .int .i64 (if formV k (x : Int) t then 0 else 1)]) ∧ Below w.heap.size w w'
set_option maxHeartbeats 4000000 in
theorem rprint_62 (T : Nat → Nat × Nat) (hT : TabLt T) (hP : PF.TabPow (tabF T)) (k : Int) (x : Nat) (t : ByteArray) (hx : x < 18446744073709551616) (w0 : World) (henv : FEnv T w0) (h8 : 15 < w0.heap.size) :
    Calls Tryz.prog 62 #[.agg #[.int .i64 k, .int .u64 (x : Int), .string t]] w0 (RPost T k x t w0) := by
  obtain ⟨P, hPP⟩ : ∃ P, RPost T k x t w0 = P := ⟨_, rfl⟩
  rw [hPP]
  have HPP := Lib.hid hPP
  have HE := Lib.hid henv
  have H8 := Lib.hid h8
  have HT := Lib.hid hT
  have HTP := Lib.hid hP
  have M97 := Lib.hid (fun w => formed97 k x t hx w)
  have HBX := Lib.hid (fun c => (Below.refl w0.heap.size w0).alloc (Nat.le_refl _) c)
  have z0 : (w0.alloc (.cells #[.int .i64 k, .int .u64 (x : Int), .string t] 53)).cell? ⟨w0.heap.size, 0, none⟩ = some (.int .i64 k) := by simp
  have z1 : (w0.alloc (.cells #[.int .i64 k, .int .u64 (x : Int), .string t] 53)).cell? ⟨w0.heap.size, 1, none⟩ = some (.int .u64 (x : Int)) := by simp
  have z2 : (w0.alloc (.cells #[.int .i64 k, .int .u64 (x : Int), .string t] 53)).cell? ⟨w0.heap.size, 2, none⟩ = some (.string t) := by simp
  have Z := Lib.hid (And.intro z0 (And.intro z1 z2))
  clear hPP henv h8 hT hP z0 z1 z2
  go_enter Tryz.func62, Tryz.ntmps62
  go_wp2_with fail
  refine (M97.out _).mono ?_
  rintro e w2 ⟨rfl, hb2⟩
  have hsz : w0.heap.size < (w0.alloc (.cells #[.int .i64 k, .int .u64 (x : Int), .string t] 53)).heap.size := by simp
  have c0 := (hb2.cell (p := ⟨w0.heap.size, 0, none⟩) hsz).trans Z.out.1
  have c1 := (hb2.cell (p := ⟨w0.heap.size, 1, none⟩) hsz).trans Z.out.2.1
  have c2 := (hb2.cell (p := ⟨w0.heap.size, 2, none⟩) hsz).trans Z.out.2.2
  have HB2 := Lib.hid ((HBX.out (.cells #[.int .i64 k, .int .u64 (x : Int), .string t] 53)).trans (hb2.mono (Nat.le_of_lt hsz)))
  have HE2 := Lib.hid (HE.out.later HB2.out H8.out)
  have H82 := Lib.hid (Nat.lt_of_lt_of_le H8.out HB2.out.size)
  obtain ⟨r, hr⟩ : ∃ r, formV k (x : Int) t = r := ⟨_, rfl⟩
  rw [hr]
  have HR := Lib.hid hr
  clear hb2 hsz hr
  have HX := Lib.hid hx
  clear hx
  cases r with
  | false =>
    go_wp2_with fail
    rw [← HPP.out]
    unfold RPost
    rw [HR.out]
    exact ⟨rfl, HB2.out⟩
  | true =>
    by_cases h1 : k = 1
    · subst h1
      have hfin : PF.Fin x := by
        have h := HR.out
        rw [formV_1, Bool.and_eq_true] at h
        obtain ⟨f1, f2, f3⟩ := finB_cases x
        rcases PF.sorts x with g | g | g
        · exact g
        · rw [f2 g] at h; exact absurd h.2 (by decide)
        · rw [f3 g] at h; exact absurd h.2 (by decide)
      have M98 := Lib.hid (ref_98 T HT.out HTP.out x HX.out hfin w2 HE2.out H82.out)
      have h66 := run66 x
      clear hfin
      go_wp2_with fail
      refine M98.out.mono ?_
      rintro e w3 ⟨rfl, hb3⟩
      have HB3 := Lib.hid (HB2.out.trans (hb3.mono HB2.out.size))
      clear hb3
      go_wp2_with fail
      rw [← HPP.out]
      unfold RPost
      rw [HR.out]
      exact ⟨rfl, HB3.out⟩
    · by_cases h2 : k = 2
      · subst h2
        obtain ⟨s1, s2, s3⟩ := sg64_wrap x HX.out
        have M30 := Lib.hid (formInt_30 (sg64 x) s2 s3 w2 HE2.out.tab)
        have sI : (bs (Lib.itoa (sg64 x))).size ≤ 21 := by rw [bs_size]; exact itoa_len20 s2 s3
        clear s2 s3
        go_wp2_with fail
        refine M30.out.mono ?_
        rintro e w3 ⟨rfl, hb3⟩
        have HB3 := Lib.hid (HB2.out.trans (hb3.mono HB2.out.size))
        clear hb3
        go_wp2_with fail
        rw [← HPP.out]
        unfold RPost
        rw [HR.out]
        exact ⟨congrArg (fun z => Ending.returned (Value.tuple #[.string z, .int .i64 0])) (bs_app _ [105]), HB3.out⟩
      · by_cases h3 : k = 3
        · subst h3
          by_cases hx1 : x = 1
          · have hc : ((x : Int) == 1) = true := by rw [hx1]; rfl
            have HX1 := Lib.hid hx1
            clear hx1
            go_wp2_with fail
            rw [← HPP.out]
            unfold RPost
            rw [HR.out, HX1.out]
            exact ⟨rfl, HB2.out⟩
          · have hc : ((x : Int) == 1) = false := by rw [beq_eq_false_iff_ne]; omega
            have HX1 := Lib.hid hx1
            clear hx1
            go_wp2_with fail
            rw [← HPP.out]
            unfold RPost pv
            rw [HR.out]
            refine ⟨?_, HB2.out⟩
            rw [if_neg HX1.out]
            rfl
        · have h4 : k = 4 := by
            refine Classical.byContradiction fun h4 => ?_
            have h := HR.out
            rw [formV_o k _ t h1 h2 h3 h4] at h
            cases h
          subst h4
          have hl : t.size ≤ 65536 := by
            have h := HR.out
            rw [formV_4, Bool.and_eq_true, decide_eq_true_eq, decide_eq_true_eq] at h
            exact h.2
          have hl2 : t.data.toList.length ≤ 70000 := Nat.le_trans (Nat.le_of_eq (Array.length_toList)) (Nat.le_trans hl (by decide))
          have M99 := quoted_99 t.data.toList hl2 w2
          rw [← bs_eta t] at M99
          have M99 := Lib.hid M99
          clear h1 h2 h3 hl hl2
          go_wp2_with fail
          refine M99.out.mono ?_
          rintro e w3 ⟨rfl, hb3⟩
          have HB3 := Lib.hid (HB2.out.trans (hb3.mono HB2.out.size))
          clear hb3
          go_wp2_with fail
          rw [← HPP.out]
          unfold RPost
          rw [HR.out]
          exact ⟨rfl, HB3.out⟩
end Go.Proofs.YtagiddbfhlokcaaGreatDoor.Ff
/- Whether a row is formed, by the program and by the reference. Condition: texts' lengths are numbers of Go's int; values' bits are 64. -/
namespace Go.Proofs.YtagiddbfhlokcaaGreatDoor.Ser
open Go.RowKit Go.Sort
set_option maxRecDepth 100000
def FieldsAt (w : World) (a : Option Addr) (L : List Fd) : Prop :=
  ∀ i, i < L.length → ∃ b off, a = some ⟨b, off, none⟩ ∧ b < w.heap.size ∧ w.cell? ⟨b, off + i * 4, none⟩ = some (.string (fE L i).1) ∧ w.cell? ⟨b, off + i * 4 + 1, none⟩ = some (.int .i64 (fE L i).2.1) ∧
    w.cell? ⟨b, off + i * 4 + 2, none⟩ = some (.int .u64 (fE L i).2.2.1) ∧ w.cell? ⟨b, off + i * 4 + 3, none⟩ = some (.string (fE L i).2.2.2)
theorem FieldsAt.later {w w' : World} {a : Option Addr} {L : List Fd} (h : FieldsAt w a L) (hb : Below w.heap.size w w') : FieldsAt w' a L := fun i hi => by
  obtain ⟨b, off, h1, h2, h3, h4, h5, h6⟩ := h i hi
  exact ⟨b, off, h1, Nat.lt_of_lt_of_le h2 hb.size, by rw [← h3]; exact hb.cell h2, by rw [← h4]; exact hb.cell h2, by rw [← h5]; exact hb.cell h2, by rw [← h6]; exact hb.cell h2⟩
/-- Texts are no longer than a text may be, bits are 64. -/
def FdOk (p : Fd) : Prop := p.1.size ≤ maxLen ∧ (0 ≤ p.2.2.1 ∧ p.2.2.1 < 18446744073709551616)
theorem fdOk_at {L : List Fd} (h : ∀ p ∈ L, FdOk p) (i : Nat) : FdOk (fE L i) := by
  unfold fE
  by_cases hi : i < L.length
  · rw [List.getD_eq_getElem?_getD, List.getElem?_eq_getElem hi]
    exact h _ (List.getElem_mem hi)
  · rw [List.getD_eq_getElem?_getD, List.getElem?_eq_none (Nat.le_of_not_lt hi)]
    exact ⟨Nat.zero_le _, Int.le_refl _, by decide⟩
theorem fformB_bad {L : List Fd} {k : Nat} (hk : k < L.length) (h : fstep L k = false) : fformB L = false := by
  unfold fformB
  rw [List.all_eq_false]
  exact ⟨k, by simpa using hk, by simp [h]⟩
theorem v59_is {r : Bool} (k b : Int) (t : ByteArray) (hb : 0 ≤ b ∧ b < 18446744073709551616) (h : formV k b t = r) (w : World) : Calls Tryz.prog 59 #[.agg #[.int .i64 k, .int .u64 b, .string t]] w fun e w' => e = .returned (.bool r) ∧ Below w.heap.size w w' := by
  obtain ⟨x, rfl⟩ : ∃ x : Nat, b = (x : Int) := ⟨b.toNat, by omega⟩
  subst h
  exact formed59 k x t (by omega) w
theorem v97_is {r : Bool} (k b : Int) (t : ByteArray) (hb : 0 ≤ b ∧ b < 18446744073709551616) (h : formV k b t = r) (w : World) : Calls Tryz.prog 97 #[.agg #[.int .i64 k, .int .u64 b, .string t]] w fun e w' => e = .returned (.bool r) ∧ Below w.heap.size w w' := by
  obtain ⟨x, rfl⟩ : ∃ x : Nat, b = (x : Int) := ⟨b.toNat, by omega⟩
  subst h
  exact formed97 k x t (by omega) w
def rowB (name : ByteArray) (n : Nat) (kf vf : Nat → ByteArray) (L : List Fd) : Bool := fformB L && (formedB name n kf vf && (decide (0 < L.length) && decide (L.length ≤ 16)))
def InFm (n cap : Nat) (name : ByteArray) (a fa : Option Addr) (fcap : Nat) (tm : Int) (L : List Fd) (w : World) (i : Value) (wr : World) : Prop :=
  ∃ k : Nat, k ≤ L.length ∧ i = .int .i64 k ∧ (List.range k).all (fstep L) = true ∧ Below w.heap.size w wr ∧ w.heap.size < wr.heap.size ∧
    wr.cell? ⟨w.heap.size, 0, none⟩ = some (.string name) ∧ wr.cell? ⟨w.heap.size, 1, none⟩ = some (.slice a n cap) ∧ wr.cell? ⟨w.heap.size, 2, none⟩ = some (.slice fa L.length fcap) ∧ wr.cell? ⟨w.heap.size, 3, none⟩ = some (.int .i64 tm)
theorem inFm_next {n cap k fcap : Nat} {name : ByteArray} {a fa : Option Addr} {tm : Int} {L : List Fd} {w wr w2 : World} {o : Obj} (hk : k < L.length) (ha : (List.range k).all (fstep L) = true) (hs : fstep L k = true)
    (hb : Below w.heap.size w wr) (hsz : w.heap.size < wr.heap.size) (hc0 : wr.cell? ⟨w.heap.size, 0, none⟩ = some (.string name)) (hc1 : wr.cell? ⟨w.heap.size, 1, none⟩ = some (.slice a n cap)) (hc2 : wr.cell? ⟨w.heap.size, 2, none⟩ = some (.slice fa L.length fcap)) (hc3 : wr.cell? ⟨w.heap.size, 3, none⟩ = some (.int .i64 tm)) (hb2 : Below (wr.alloc o).heap.size (wr.alloc o) w2) :
    InFm n cap name a fa fcap tm L w (.int .i64 ((k : Int) + 1)) w2 ∧ L.length - (intOf (Value.int .i64 ((k : Int) + 1))).toNat < L.length - (intOf (Value.int .i64 (k : Int))).toNat := by
  have h1 : Below wr.heap.size wr w2 := ((Below.refl _ _).alloc (Nat.le_refl _) o).trans (hb2.mono (by simp))
  refine ⟨⟨k + 1, hk, by go_num, ?_, hb.trans (h1.mono (Nat.le_of_lt hsz)), Nat.lt_of_lt_of_le hsz h1.size, ?_, ?_, ?_, ?_⟩, ?_⟩
  · rw [List.range_succ, List.all_append, ha]; simp [hs]
  · rw [← hc0]; exact h1.cell hsz
  · rw [← hc1]; exact h1.cell hsz
  · rw [← hc2]; exact h1.cell hsz
  · rw [← hc3]; exact h1.cell hsz
  · simp [intOf]; omega
set_option maxHeartbeats 4000000 in
theorem formed25 (name : ByteArray) (a fa : Option Addr) (n cap fcap : Nat) (tm : Int) (kf vf : Nat → ByteArray) (L : List Fd) (w : World) (hn : n < 2 ^ 63) (hl : L.length < 2 ^ 63) (hname : name.size ≤ maxLen) (hks : ∀ i, (kf i).size ≤ maxLen ∧ (vf i).size ≤ maxLen)
    (hfs : ∀ p ∈ L, FdOk p) (ht : TagsAt w a n kf vf) (hf : FieldsAt w fa L) : Calls Tryz.prog 25 #[.agg #[.string name, .slice a n cap, .slice fa L.length fcap, .int .i64 tm]] w (Answer (.bool (rowB name n kf vf L)) w) := by
  have HT := Lib.hid hf
  have HK := Lib.hid hfs
  have HTG := Lib.hid ht
  have HKS := Lib.hid hks
  clear hf hfs ht hks
  go_enter Tryz.func25, Tryz.ntmps25
  go_wp2_with fail
  go_loopw [8] (fun i wr => InFm n cap name a fa fcap tm L w i wr) (fun i _ => L.length - (intOf i).toNat)
  case atStart => exact ⟨0, Nat.zero_le _, rfl, rfl, (Below.refl _ _).alloc (Nat.le_refl _) _, by simp, by simp, by simp, by simp, by simp⟩
  case round =>
    obtain ⟨k, hk, rfl, hall, hb, hsz, hc0, hc1, hc2, hc3⟩ := hrel
    have HA := Lib.hid hall
    have HB := Lib.hid hb
    clear hall hb
    by_cases hlt : k < L.length
    · obtain ⟨b, off, ha, hbw, hck, hcv, hcw, hcx⟩ := HT.out k hlt
      subst ha
      have hd1 : wr.cell? ⟨b, off + k * 4, none⟩ = some (.string (fE L k).1) := by rw [← hck]; exact HB.out.cell hbw
      have hd2 : wr.cell? ⟨b, off + k * 4 + 1, none⟩ = some (.int .i64 (fE L k).2.1) := by rw [← hcv]; exact HB.out.cell hbw
      have hd4 : wr.cell? ⟨b, off + k * 4 + 2, none⟩ = some (.int .u64 (fE L k).2.2.1) := by rw [← hcw]; exact HB.out.cell hbw
      have hd5 : wr.cell? ⟨b, off + k * 4 + 3, none⟩ = some (.string (fE L k).2.2.2) := by rw [← hcx]; exact HB.out.cell hbw
      have hbr : b < wr.heap.size := Nat.lt_of_lt_of_le hbw HB.out.size
      clear hck hcv hcw hcx
      obtain ⟨hk1, hv1⟩ := fdOk_at HK.out k
      obtain ⟨⟨ky, vk, vb, vt⟩, he⟩ : ∃ p, fE L k = p := ⟨_, rfl⟩
      rw [he] at hd1 hd2 hd4 hd5 hk1 hv1
      simp only at hd1 hd2 hd4 hd5 hk1 hv1
      have HEL := Lib.hid he
      clear he
      obtain ⟨W, hW⟩ : ∃ W, W = wr.alloc (.cells #[.string ky, .int .i64 vk, .int .u64 vb, .string vt] 64) := ⟨_, rfl⟩
      have f0 := cell_regrown (show W.cell? ⟨wr.heap.size, 0, none⟩ = some (.string ky) by rw [hW]; simp)
      have f1 := cell_regrown (show W.cell? ⟨wr.heap.size, 1, none⟩ = some (.int .i64 vk) by rw [hW]; simp)
      have f1b := cell_regrown (show W.cell? ⟨wr.heap.size, 2, none⟩ = some (.int .u64 vb) by rw [hW]; simp)
      have f1c := cell_regrown (show W.cell? ⟨wr.heap.size, 3, none⟩ = some (.string vt) by rw [hW]; simp)
      have f2 := cell_regrown (show W.cell? ⟨w.heap.size, 2, none⟩ = some (.slice (some ⟨b, off, none⟩) L.length fcap) by rw [hW]; exact alloc_cell hc2)
      have HW := Lib.hid hW
      clear hW
      have HST : Hid (fstep L k = (nameB ky.data.toList && (formV vk vb vt && (decide (k = 0) || Op.bytesLess (fE L (k - 1)).1.data.toList ky.data.toList)))) := Lib.hid (by unfold fstep; rw [HEL.out])
      have HBAD : Hid (∀ w2, Below W.heap.size W w2 → fstep L k = false → Answer (.bool (rowB name n kf vf L)) w (.returned (.bool false)) w2) := Lib.hid (fun w2 hb2 hs => by
        rw [HW.out] at hb2
        exact ⟨ret_bool (show false = rowB name n kf vf L by unfold rowB; rw [fformB_bad hlt hs]; rfl), below_box HB.out hsz hb2⟩)
      cases e1 : nameB ky.data.toList with
      | false =>
        have cK := fun d os => Calls.regrown_of (vname_is ky (grow (redrawn W d) os) hk1 e1)
        have HE := Lib.hid e1
        clear e1
        go_wp2_with fail
        rw [← HW.out]
        refine wp_region_quiet_below (by kernel_rfl) (by kernel_rfl) ?_
        repeat (go_big_quiet_step (with_reducible exact cK _ _))
        refine wpQuiet_nil ?_
        intro w2 hw2
        have hb2 := below_of_regrown hw2
        have HB2 := Lib.hid hb2
        clear hw2 hb2
        go_wp2
        go_ret
        exact HBAD.out _ HB2.out (by rw [HST.out, HE.out]; rfl)
      | true =>
        have cK := fun d os => Calls.regrown_of (vname_is ky (grow (redrawn W d) os) hk1 e1)
        have HE := Lib.hid e1
        clear e1
        cases e2 : formV vk vb vt with
        | false =>
          have cV := fun d os => Calls.regrown_of (v59_is vk vb vt hv1 e2 (grow (redrawn W d) os))
          have HE2 := Lib.hid e2
          clear e2
          go_wp2_with fail
          rw [← HW.out]
          refine wp_region_quiet_below (by kernel_rfl) (by kernel_rfl) ?_
          repeat (go_big_quiet_step ((first | with_reducible exact cK _ _ | with_reducible exact cV _ _)))
          refine wpQuiet_nil ?_
          intro w2 hw2
          have hb2 := below_of_regrown hw2
          have HB2 := Lib.hid hb2
          clear hw2 hb2
          go_wp2
          go_ret
          exact HBAD.out _ HB2.out (by rw [HST.out, HE2.out, Bool.false_and, Bool.and_false])
        | true =>
          have cV := fun d os => Calls.regrown_of (v59_is vk vb vt hv1 e2 (grow (redrawn W d) os))
          have HE2 := Lib.hid e2
          clear e2
          by_cases hk0 : k = 0
          · have hd : decide (0 < k) = false := by simp; omega
            have HS : Hid (fstep L k = true) := Lib.hid (by rw [HST.out, HE.out, HE2.out, hk0]; rfl)
            clear hk0
            go_wp2_with fail
            rw [← HW.out]
            refine wp_region_quiet_below (by kernel_rfl) (by kernel_rfl) ?_
            repeat (go_big_quiet_step ((first | with_reducible exact cK _ _ | with_reducible exact cV _ _)))
            refine wpQuiet_nil ?_
            intro w2 hw2
            have hb2 := below_of_regrown hw2
            have HB2 := Lib.hid hb2
            clear hw2 hb2
            go_wp2
            have HB3 := HB2.out
            rw [HW.out] at HB3
            exact inFm_next hlt HA.out HS.out HB.out hsz hc0 hc1 hc2 hc3 HB3
          · obtain ⟨b', off', ha', _, hck', _⟩ := HT.out (k - 1) (by omega)
            cases ha'
            obtain ⟨kp, hkp⟩ : ∃ kp, (fE L (k - 1)).1 = kp := ⟨_, rfl⟩
            have HKP := Lib.hid hkp
            rw [hkp] at hck'
            have hd3 : wr.cell? ⟨b, off + (k - 1) * 4, none⟩ = some (.string kp) := by rw [← hck']; exact HB.out.cell hbw
            have f3 := cell_regrown (show W.cell? ⟨b, off + (k - 1) * 4, none⟩ = some (.string kp) by rw [HW.out]; exact alloc_cell hd3)
            clear hck' hd3 hkp
            have hd : decide (0 < k) = true := by simp; omega
            have hq : (1 : Int) ≤ (k : Int) := by omega
            have hq1 : (k : Int) - 1 < (L.length : Int) := by omega
            have hq2 : ((k : Int) - 1).toNat = k - 1 := by omega
            have hq3 : IntKind.i64.wrap ((k : Int) - 1) = (k : Int) - 1 := IntWalk.i64_in _ (by omega)
            cases e3 : Op.bytesLess kp.toList ky.toList with
            | false =>
              have HS : Hid (fstep L k = false) := Lib.hid (by rw [ByteArray.toList_eq, ByteArray.toList_eq] at e3; rw [HST.out, HE.out, HE2.out, HKP.out, e3, decide_eq_false hk0]; rfl)
              have HK0 := Lib.hid hk0
              clear hk0
              go_wp2_with fail
              rw [← HW.out]
              refine wp_region_quiet_below (by kernel_rfl) (by kernel_rfl) ?_
              repeat (go_big_quiet_step ((first | with_reducible exact cK _ _ | with_reducible exact cV _ _)))
              refine wpQuiet_nil ?_
              intro w2 hw2
              have hb2 := below_of_regrown hw2
              have HB2 := Lib.hid hb2
              clear hw2 hb2
              go_wp2
              go_ret
              exact HBAD.out _ HB2.out HS.out
            | true =>
              have HS : Hid (fstep L k = true) := Lib.hid (by rw [ByteArray.toList_eq, ByteArray.toList_eq] at e3; rw [HST.out, HE.out, HE2.out, HKP.out, e3]; simp)
              have HK0 := Lib.hid hk0
              clear hk0
              go_wp2_with fail
              rw [← HW.out]
              refine wp_region_quiet_below (by kernel_rfl) (by kernel_rfl) ?_
              repeat (go_big_quiet_step ((first | with_reducible exact cK _ _ | with_reducible exact cV _ _)))
              refine wpQuiet_nil ?_
              intro w2 hw2
              have hb2 := below_of_regrown hw2
              have HB2 := Lib.hid hb2
              clear hw2 hb2
              go_wp2
              have HB3 := HB2.out
              rw [HW.out] at HB3
              exact inFm_next hlt HA.out HS.out HB.out hsz hc0 hc1 hc2 hc3 HB3
    · have hke : k = L.length := by omega
      have HAn : Hid (fformB L = true) := Lib.hid (by unfold fformB; rw [← hke]; exact HA.out)
      clear hke
      obtain ⟨fb, hfb⟩ : ∃ fb, formedB name n kf vf = fb := ⟨_, rfl⟩
      have MF := Lib.hid (formed name a n cap kf vf wr hn hname HKS.out (fun i hi => by
        obtain ⟨b, off, h1, h2, h3, h4⟩ := HTG.out i hi
        exact ⟨b, off, h1, Nat.lt_of_lt_of_le h2 HB.out.size, by rw [← h3]; exact HB.out.cell h2, by rw [← h4]; exact HB.out.cell h2⟩))
      rw [hfb] at MF
      have HFB := Lib.hid hfb
      have HFIN : Hid (∀ w2 r, Below wr.heap.size wr w2 → r = (fb && (decide (0 < L.length) && decide (L.length ≤ 16))) → Answer (.bool (rowB name n kf vf L)) w (.returned (.bool r)) w2) := Lib.hid (fun w2 r hb2 hr =>
        ⟨ret_bool (by unfold rowB; rw [hr, HAn.out, HFB.out]; rfl), HB.out.trans (hb2.mono (Nat.le_of_lt hsz))⟩)
      have HC2 := Lib.hid hc2
      clear hfb hc2
      go_wp2_with fail
      refine MF.out.mono ?_
      rintro e w2 ⟨rfl, hb2⟩
      have hc2 : w2.cell? ⟨w.heap.size, 2, none⟩ = some (.slice fa L.length fcap) := by rw [← HC2.out]; exact hb2.cell hsz
      have HB2 := Lib.hid hb2
      clear hb2 hc0 hc1 hc3
      cases fb with
      | false =>
        go_wp2_with fail
        go_ret
        exact HFIN.out _ _ HB2.out rfl
      | true =>
        by_cases h0 : 0 < L.length
        · have h0z : (0 : Int) < (L.length : Int) := by omega
          have H0 := Lib.hid (decide_eq_true h0)
          clear h0
          by_cases h16 : L.length ≤ 16
          · have h16z : (L.length : Int) ≤ 16 := by omega
            have H16 := Lib.hid (decide_eq_true h16)
            clear h16
            go_wp2_with fail
            go_ret
            exact HFIN.out _ _ HB2.out (by rw [H0.out, H16.out]; rfl)
          · have h16z : ¬ (L.length : Int) ≤ 16 := by omega
            have H16 := Lib.hid (decide_eq_false h16)
            have HZ : Hid (decide ((L.length : Int) ≤ 16) = false) := Lib.hid (decide_eq_false h16z)
            clear h16
            go_wp2_with fail
            go_ret
            exact HFIN.out _ _ HB2.out (by rw [H16.out, HZ.out, H0.out]; rfl)
        · have h0z : ¬ (0 : Int) < (L.length : Int) := by omega
          have H0 := Lib.hid (decide_eq_false h0)
          clear h0
          go_wp2_with fail
          go_ret
          exact HFIN.out _ _ HB2.out (by rw [H0.out]; rfl)
set_option maxHeartbeats 4000000 in
theorem formed60 (name : ByteArray) (a fa : Option Addr) (n cap fcap : Nat) (tm : Int) (kf vf : Nat → ByteArray) (L : List Fd) (w : World) (hn : n < 2 ^ 63) (hl : L.length < 2 ^ 63) (hname : name.size ≤ maxLen) (hks : ∀ i, (kf i).size ≤ maxLen ∧ (vf i).size ≤ maxLen)
    (hfs : ∀ p ∈ L, FdOk p) (ht : TagsAt w a n kf vf) (hf : FieldsAt w fa L) : Calls Tryz.prog 60 #[.agg #[.string name, .slice a n cap, .slice fa L.length fcap, .int .i64 tm]] w (Answer (.bool (rowB name n kf vf L)) w) := by
  have HT := Lib.hid hf
  have HK := Lib.hid hfs
  obtain ⟨fb, hfb⟩ : ∃ fb, formedB name n kf vf = fb := ⟨_, rfl⟩
  have HFB := Lib.hid hfb
  have HR : Hid (∀ r, r = (fformB L && (fb && (decide (0 < L.length) && decide (L.length ≤ 16)))) → r = rowB name n kf vf L) := Lib.hid (fun r hr => by unfold rowB; rw [HFB.out]; exact hr)
  have MF := Lib.hid (rformed name a n cap kf vf (w.alloc (.cells #[.string name, .slice a n cap, .slice fa L.length fcap, .int .i64 tm] 27 (0, 0))) hn hname hks (ht.later ((Below.refl _ _).alloc (Nat.le_refl _) _)))
  rw [hfb] at MF
  have HB0 : Hid (Below w.heap.size w (w.alloc (.cells #[.string name, .slice a n cap, .slice fa L.length fcap, .int .i64 tm] 27 (0, 0)))) := Lib.hid ((Below.refl _ _).alloc (Nat.le_refl _) _)
  have hnw := newest w (.cells #[.string name, .slice a n cap, .slice fa L.length fcap, .int .i64 tm] 27 (0, 0))
  obtain ⟨w0, hw0⟩ : ∃ w0, w.alloc (.cells #[.string name, .slice a n cap, .slice fa L.length fcap, .int .i64 tm] 27 (0, 0)) = w0 := ⟨_, rfl⟩
  have hs0 : w.heap.size < w0.heap.size := by rw [← hw0]; simp
  rw [hw0] at MF HB0 hnw
  have HNW := Lib.hid hnw
  have HS0 := Lib.hid hs0
  have HW0 := Lib.hid hw0
  clear hf hfs ht hks hfb hnw hs0 hw0
  go_enter Tryz.func60, Tryz.ntmps60
  go_wp2_with fail
  rw [HW0.out]
  refine MF.out.mono ?_
  rintro e w1 ⟨rfl, hb1⟩
  have hk : w1.heap[w.heap.size]? = some (.cells #[.string name, .slice a n cap, .slice fa L.length fcap, .int .i64 tm] 27 (0, 0)) := (hb1.block _ HS0.out).trans HNW.out
  have hc0 : w1.cell? ⟨w.heap.size, 0, none⟩ = some (.string name) := Lib.cell_of_heap hk 0
  have hc1 : w1.cell? ⟨w.heap.size, 1, none⟩ = some (.slice a n cap) := Lib.cell_of_heap hk 1
  have hc2 : w1.cell? ⟨w.heap.size, 2, none⟩ = some (.slice fa L.length fcap) := Lib.cell_of_heap hk 2
  have hc3 : w1.cell? ⟨w.heap.size, 3, none⟩ = some (.int .i64 tm) := Lib.cell_of_heap hk 3
  have HB1 := Lib.hid (HB0.out.trans (hb1.mono HB0.out.size))
  have HS1 : Hid (w.heap.size < w1.heap.size) := Lib.hid (Nat.lt_of_lt_of_le HS0.out hb1.size)
  clear hb1 hk
  cases fb with
  | false =>
    go_wp2_with fail
    go_ret
    exact ⟨ret_bool (HR.out _ (by rw [Bool.false_and, Bool.and_false])), HB1.out⟩
  | true =>
    by_cases h0 : L.length < 1
    · have h0z : (L.length : Int) < 1 := by omega
      have HZ : Hid (false = rowB name n kf vf L) := Lib.hid (HR.out _ (by rw [decide_eq_false (show ¬ 0 < L.length by omega), Bool.false_and, Bool.and_false, Bool.and_false]))
      clear h0
      go_wp2_with fail
      go_ret
      exact ⟨ret_bool HZ.out, HB1.out⟩
    · have h0z : ¬ (L.length : Int) < 1 := by omega
      by_cases h16 : L.length ≤ 16
      · have h16z : ¬ (16 : Int) < (L.length : Int) := by omega
        have HZ : Hid (fformB L = rowB name n kf vf L) := Lib.hid (HR.out _ (by rw [decide_eq_true (show 0 < L.length by omega), decide_eq_true h16, Bool.and_true, Bool.and_true, Bool.and_true]))
        have HC0 := Lib.hid hc0
        have HC1 := Lib.hid hc1
        have HC3 := Lib.hid hc3
        have HC2 := Lib.hid hc2
        clear h0 h16 hc0 hc1 hc3
        go_wp2_with fail
        go_loopw [24] (fun i wr => InFm n cap name a fa fcap tm L w i wr) (fun i _ => L.length - (intOf i).toNat)
        case atStart => exact ⟨0, Nat.zero_le _, rfl, rfl, HB1.out, HS1.out, HC0.out, HC1.out, HC2.out, HC3.out⟩
        case round =>
          clear hc2
          obtain ⟨k, hk, rfl, hall, hb, hsz, hc0, hc1, hc2, hc3⟩ := hrel
          have HA := Lib.hid hall
          have HB := Lib.hid hb
          clear hall hb
          by_cases hlt : k < L.length
          · obtain ⟨b, off, ha, hbw, hck, hcv, hcw, hcx⟩ := HT.out k hlt
            subst ha
            have hd1 : wr.cell? ⟨b, off + k * 4, none⟩ = some (.string (fE L k).1) := by rw [← hck]; exact HB.out.cell hbw
            have hd2 : wr.cell? ⟨b, off + k * 4 + 1, none⟩ = some (.int .i64 (fE L k).2.1) := by rw [← hcv]; exact HB.out.cell hbw
            have hd4 : wr.cell? ⟨b, off + k * 4 + 2, none⟩ = some (.int .u64 (fE L k).2.2.1) := by rw [← hcw]; exact HB.out.cell hbw
            have hd5 : wr.cell? ⟨b, off + k * 4 + 3, none⟩ = some (.string (fE L k).2.2.2) := by rw [← hcx]; exact HB.out.cell hbw
            have hbr : b < wr.heap.size := Nat.lt_of_lt_of_le hbw HB.out.size
            clear hck hcv hcw hcx
            obtain ⟨hk1, hv1⟩ := fdOk_at HK.out k
            obtain ⟨⟨ky, vk, vb, vt⟩, he⟩ : ∃ p, fE L k = p := ⟨_, rfl⟩
            rw [he] at hd1 hd2 hd4 hd5 hk1 hv1
            simp only at hd1 hd2 hd4 hd5 hk1 hv1
            have HEL := Lib.hid he
            clear he
            obtain ⟨W, hW⟩ : ∃ W, W = wr.alloc (.cells #[.string ky, .int .i64 vk, .int .u64 vb, .string vt] 64) := ⟨_, rfl⟩
            have f0 := cell_regrown (show W.cell? ⟨wr.heap.size, 0, none⟩ = some (.string ky) by rw [hW]; simp)
            have f1 := cell_regrown (show W.cell? ⟨wr.heap.size, 1, none⟩ = some (.int .i64 vk) by rw [hW]; simp)
            have f1b := cell_regrown (show W.cell? ⟨wr.heap.size, 2, none⟩ = some (.int .u64 vb) by rw [hW]; simp)
            have f1c := cell_regrown (show W.cell? ⟨wr.heap.size, 3, none⟩ = some (.string vt) by rw [hW]; simp)
            have f2 := cell_regrown (show W.cell? ⟨w.heap.size, 2, none⟩ = some (.slice (some ⟨b, off, none⟩) L.length fcap) by rw [hW]; exact alloc_cell hc2)
            have HW := Lib.hid hW
            clear hW
            have HST : Hid (fstep L k = (nameB ky.data.toList && (formV vk vb vt && (decide (k = 0) || Op.bytesLess (fE L (k - 1)).1.data.toList ky.data.toList)))) := Lib.hid (by unfold fstep; rw [HEL.out])
            have HBAD : Hid (∀ w2, Below W.heap.size W w2 → fstep L k = false → Answer (.bool (rowB name n kf vf L)) w (.returned (.bool false)) w2) := Lib.hid (fun w2 hb2 hs => by
              rw [HW.out] at hb2
              exact ⟨ret_bool (show false = rowB name n kf vf L by unfold rowB; rw [fformB_bad hlt hs]; rfl), below_box HB.out hsz hb2⟩)
            cases e1 : nameB ky.data.toList with
            | false =>
              have cK := fun d os => Calls.regrown_of (rname_is ky (grow (redrawn W d) os) hk1 e1)
              have HE := Lib.hid e1
              clear e1
              go_wp2_with fail
              rw [← HW.out]
              refine wp_region_quiet_below (by kernel_rfl) (by kernel_rfl) ?_
              repeat (go_big_quiet_step (with_reducible exact cK _ _))
              refine wpQuiet_nil ?_
              intro w2 hw2
              have hb2 := below_of_regrown hw2
              have HB2 := Lib.hid hb2
              clear hw2 hb2
              go_wp2
              go_ret
              exact HBAD.out _ HB2.out (by rw [HST.out, HE.out]; rfl)
            | true =>
              have cK := fun d os => Calls.regrown_of (rname_is ky (grow (redrawn W d) os) hk1 e1)
              have HE := Lib.hid e1
              clear e1
              cases e2 : formV vk vb vt with
              | false =>
                have cV := fun d os => Calls.regrown_of (v97_is vk vb vt hv1 e2 (grow (redrawn W d) os))
                have HE2 := Lib.hid e2
                clear e2
                go_wp2_with fail
                rw [← HW.out]
                refine wp_region_quiet_below (by kernel_rfl) (by kernel_rfl) ?_
                repeat (go_big_quiet_step ((first | with_reducible exact cK _ _ | with_reducible exact cV _ _)))
                refine wpQuiet_nil ?_
                intro w2 hw2
                have hb2 := below_of_regrown hw2
                have HB2 := Lib.hid hb2
                clear hw2 hb2
                go_wp2
                go_ret
                exact HBAD.out _ HB2.out (by rw [HST.out, HE2.out, Bool.false_and, Bool.and_false])
              | true =>
                have cV := fun d os => Calls.regrown_of (v97_is vk vb vt hv1 e2 (grow (redrawn W d) os))
                have HE2 := Lib.hid e2
                clear e2
                by_cases hk0 : k = 0
                · have hd : decide (0 < k) = false := by simp; omega
                  have HS : Hid (fstep L k = true) := Lib.hid (by rw [HST.out, HE.out, HE2.out, hk0]; rfl)
                  clear hk0
                  go_wp2_with fail
                  rw [← HW.out]
                  refine wp_region_quiet_below (by kernel_rfl) (by kernel_rfl) ?_
                  repeat (go_big_quiet_step ((first | with_reducible exact cK _ _ | with_reducible exact cV _ _)))
                  refine wpQuiet_nil ?_
                  intro w2 hw2
                  have hb2 := below_of_regrown hw2
                  have HB2 := Lib.hid hb2
                  clear hw2 hb2
                  go_wp2
                  have HB3 := HB2.out
                  rw [HW.out] at HB3
                  exact inFm_next hlt HA.out HS.out HB.out hsz hc0 hc1 hc2 hc3 HB3
                · obtain ⟨b', off', ha', _, hck', _⟩ := HT.out (k - 1) (by omega)
                  cases ha'
                  obtain ⟨kp, hkp⟩ : ∃ kp, (fE L (k - 1)).1 = kp := ⟨_, rfl⟩
                  have HKP := Lib.hid hkp
                  rw [hkp] at hck'
                  have hd3 : wr.cell? ⟨b, off + (k - 1) * 4, none⟩ = some (.string kp) := by rw [← hck']; exact HB.out.cell hbw
                  have f3 := cell_regrown (show W.cell? ⟨b, off + (k - 1) * 4, none⟩ = some (.string kp) by rw [HW.out]; exact alloc_cell hd3)
                  clear hck' hd3 hkp
                  have hd : decide (0 < k) = true := by simp; omega
                  have hq : (1 : Int) ≤ (k : Int) := by omega
                  have hq1 : (k : Int) - 1 < (L.length : Int) := by omega
                  have hq2 : ((k : Int) - 1).toNat = k - 1 := by omega
                  have hq3 : IntKind.i64.wrap ((k : Int) - 1) = (k : Int) - 1 := IntWalk.i64_in _ (by omega)
                  cases e3 : Op.bytesLess kp.toList ky.toList with
                  | false =>
                    have HS : Hid (fstep L k = false) := Lib.hid (by rw [ByteArray.toList_eq, ByteArray.toList_eq] at e3; rw [HST.out, HE.out, HE2.out, HKP.out, e3, decide_eq_false hk0]; rfl)
                    have HK0 := Lib.hid hk0
                    clear hk0
                    go_wp2_with fail
                    rw [← HW.out]
                    refine wp_region_quiet_below (by kernel_rfl) (by kernel_rfl) ?_
                    repeat (go_big_quiet_step ((first | with_reducible exact cK _ _ | with_reducible exact cV _ _)))
                    refine wpQuiet_nil ?_
                    intro w2 hw2
                    have hb2 := below_of_regrown hw2
                    have HB2 := Lib.hid hb2
                    clear hw2 hb2
                    go_wp2
                    go_ret
                    exact HBAD.out _ HB2.out HS.out
                  | true =>
                    have HS : Hid (fstep L k = true) := Lib.hid (by rw [ByteArray.toList_eq, ByteArray.toList_eq] at e3; rw [HST.out, HE.out, HE2.out, HKP.out, e3]; simp)
                    have HK0 := Lib.hid hk0
                    clear hk0
                    go_wp2_with fail
                    rw [← HW.out]
                    refine wp_region_quiet_below (by kernel_rfl) (by kernel_rfl) ?_
                    repeat (go_big_quiet_step ((first | with_reducible exact cK _ _ | with_reducible exact cV _ _)))
                    refine wpQuiet_nil ?_
                    intro w2 hw2
                    have hb2 := below_of_regrown hw2
                    have HB2 := Lib.hid hb2
                    clear hw2 hb2
                    go_wp2
                    have HB3 := HB2.out
                    rw [HW.out] at HB3
                    exact inFm_next hlt HA.out HS.out HB.out hsz hc0 hc1 hc2 hc3 HB3
          · have hke : k = L.length := by omega
            have HAn : Hid (fformB L = true) := Lib.hid (by unfold fformB; rw [← hke]; exact HA.out)
            clear hke
            go_wp2_with fail
            go_ret
            exact ⟨ret_bool (HAn.out.symm.trans HZ.out), HB.out⟩
      · have h16z : (16 : Int) < (L.length : Int) := by omega
        have HZ : Hid (false = rowB name n kf vf L) := Lib.hid (HR.out _ (by rw [decide_eq_false h16, Bool.and_false, Bool.and_false, Bool.and_false]))
        clear h0 h16
        go_wp2_with fail
        go_ret
        exact ⟨ret_bool HZ.out, HB1.out⟩
end Go.Proofs.YtagiddbfhlokcaaGreatDoor.Ser
