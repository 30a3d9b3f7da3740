/- Several texts of this proof, laid together. Conditions: as each says. -/
import Derived.Test.YtagiddbfhlokcaaGreatDoorMBR
import Derived.Test.YtagiddbfhlokcaaGreatDoorMBS
import Derived.Test.YtagiddbfhlokcaaGreatDoorMBT
import Derived.Lib.QuietBelow
import Derived.BigQuiet
import Derived.Lib.SmallJoins
import Derived.Deep.Slices
import Derived.ChangeSlices
import Derived.ChangeMaps5
/- The program's text of a row. Conditions: the tables of powers; the row's memory. -/
namespace Go.Proofs.YtagiddbfhlokcaaGreatDoor.Ser
open Go.RowKit Go.Sort Ff
set_option maxRecDepth 100000
def strV (T : Nat → Nat × Nat) (p : Fd) : Value := .string (bs (fT T p))
def InPl (T : Nat → Nat × Nat) (L : List Fd) (w1 : World) (v i : Value) (wx : World) : Prop :=
  ∃ k : Nat, i = .int .i64 k ∧ k ≤ L.length ∧ wx.ownsRow w1.heap.size 9 1 v k ((L.take k).map (strV T)) ∧ Below w1.heap.size w1 wx
theorem take_strV (T : Nat → Nat × Nat) (L : List Fd) {k : Nat} (h : k < L.length) : (L.take (k + 1)).map (strV T) = (L.take k).map (strV T) ++ [strV T (fE L k)] := by
  rw [List.take_add_one, List.getElem?_eq_getElem h, List.map_append, fE_get h]
  rfl
theorem take_strW (T : Nat → Nat × Nat) (L : List Fd) {k : Nat} (h : k < L.length) : (L.take (k + 1)).map (strV T) = (L.take k).map (strV T) ++ [.string (bs (esc (fE L k).1.data.toList ++ 61 :: pv T (fE L k).2.1 (fE L k).2.2.1.toNat (fE L k).2.2.2))] := take_strV T L h
theorem joined_fields (T : Nat → Nat × Nat) (p : Fd) (ps : List Fd) : 32 :: Lib.join (((p :: ps).map fun q => bs (fT T q)).map (·.data.toList)) [44] = (List.range (p :: ps).length).flatMap (fText T (p :: ps)) := by
  rw [text_fields, List.map_cons, List.map_cons, Lib.join_cons]
  congr 1
  have e : (bs (fT T p)).data.toList = fT T p := bs_list _
  rw [e]
  congr 1
  unfold Lib.joinTail
  rw [List.map_map, List.map_map, List.flatMap_def]
  congr 1
theorem row_join (T : Nat → Nat × Nat) (name : ByteArray) (n : Nat) (kf vf : Nat → ByteArray) {L : List Fd} (h : 0 < L.length) (tm : Int) : textTo name kf vf n ++ (32 :: Lib.join ((L.map fun q => bs (fT T q)).map (·.data.toList)) [44]) ++ (32 :: Lib.itoa tm) = rText T name n kf vf L tm := by
  cases L with
  | nil => simp at h
  | cons p ps =>
    rw [joined_fields]
    rfl
theorem join_flat (T : Nat → Nat × Nat) {L : List Fd} (h : 0 < L.length) : (Lib.join ((L.map fun q => bs (fT T q)).map (·.data.toList)) [44]).length + 1 = ((List.range L.length).flatMap (fText T L)).length := by
  cases L with
  | nil => simp at h
  | cons p ps => rw [← joined_fields, List.length_cons]
theorem field_join (a b : List UInt8) : (⟨a.toArray⟩ : ByteArray) ++ ⟨#[61]⟩ ++ bs b = bs (a ++ 61 :: b) := by
  have h1 : (⟨a.toArray⟩ : ByteArray) = bs a := rfl
  have h2 : (⟨#[61]⟩ : ByteArray) = bs [61] := rfl
  rw [h1, h2, bs_app, bs_app, List.append_assoc]
  rfl
theorem own_strs (T : Nat → Nat × Nat) {w : World} {B k c : Nat} {a : Option Addr} {L : List Fd} (h : w.ownsRow B 9 1 (.slice a k c) k ((L.take k).map (strV T))) (hk : k = L.length) (h0 : 0 < L.length) : ∃ g c', (Value.slice a k c) = .slice (some ⟨g, 0, none⟩) k c' ∧ k ≤ c ∧ ∀ (j : Nat) (u : ByteArray), (L.map fun q => bs (fT T q))[j]? = some u → w.cell? ⟨g, j, none⟩ = some (.string u) := by
  obtain ⟨g, c', hv, _⟩ := h.form (by omega)
  refine ⟨g, c', hv, ?_, fun j u hj => ?_⟩
  · rcases h.2 with ⟨hv2, h0'⟩ | ⟨g2, cap, cur, hv2, hh⟩
    · omega
    · injection hv2 with _ _ hc
      subst hc
      exact hh.2.2.1
  · injection hv with ha _ hc
    subst ha
    refine (own_cell h (i := j) ?_ (by omega)).1
    subst hk
    rw [List.take_length]
    rw [List.getElem?_map] at hj ⊢
    cases hL : L[j]? with
    | none => rw [hL] at hj; cases hj
    | some p => rw [hL] at hj; injection hj with hj; rw [← hj]; rfl
theorem row_text (a j i : List UInt8) : bs a ++ ⟨#[32]⟩ ++ bs j ++ ⟨#[32]⟩ ++ bs i = bs (a ++ (32 :: j) ++ (32 :: i)) := by
  have h2 : (⟨#[32]⟩ : ByteArray) = bs [32] := rfl
  rw [h2, bs_app, bs_app, bs_app, bs_app]
  simp
theorem own_lt {w : World} {B n c g : Nat} {xs : List Value} (h : w.ownsRow B 9 1 (.slice (some ⟨g, 0, none⟩) n c) n xs) : g < w.heap.size := (h.lt g rfl).2
set_option maxHeartbeats 4000000 in
theorem print_11 (T : Nat → Nat × Nat) (hT : TabLt T) (hP : PF.TabPow (tabF T)) (name : ByteArray) (a fa : Option Addr) (n cap fcap : Nat) (tm : Int) (ht1 : -9223372036854775808 ≤ tm) (ht2 : tm ≤ 9223372036854775807) (kf vf : Nat → ByteArray) (L : List Fd) (w : World) (hn : n < 2 ^ 63) (hl : L.length < 2 ^ 63) (hname : name.size ≤ maxLen) (hks : ∀ i, (kf i).size ≤ maxLen ∧ (vf i).size ≤ maxLen)
    (hfs : ∀ p ∈ L, FdOk p) (ht : TagsAt w a n kf vf) (hf : FieldsAt w fa L) (henv : FEnv T w) (h8 : 15 < w.heap.size) : Calls Tryz.prog 11 #[.agg #[.string name, .slice a n cap, .slice fa L.length fcap, .int .i64 tm]] w (RowP T name n kf vf L tm w) := by
  obtain ⟨P, hPP⟩ : ∃ P, RowP T name n kf vf L tm w = P := ⟨_, rfl⟩
  rw [hPP]
  have HPP := Lib.hid hPP
  obtain ⟨O, hO⟩ : ∃ O, Obj.cells #[.string name, .slice a n cap, .slice fa L.length fcap, .int .i64 tm] 27 (0, 0) = O := ⟨_, rfl⟩
  have hbx : Below w.heap.size w (w.alloc O) := (Below.refl _ _).alloc (Nat.le_refl _) _
  have M25 := Lib.hid (formed25 name a fa n cap fcap tm kf vf L (w.alloc O) hn hl hname hks hfs (ht.later hbx) (hf.later hbx))
  have z0 : (w.alloc O).cell? ⟨w.heap.size, 0, none⟩ = some (.string name) := by rw [← hO]; simp
  have z1 : (w.alloc O).cell? ⟨w.heap.size, 1, none⟩ = some (.slice a n cap) := by rw [← hO]; simp
  have z2 : (w.alloc O).cell? ⟨w.heap.size, 2, none⟩ = some (.slice fa L.length fcap) := by rw [← hO]; simp
  have z3 : (w.alloc O).cell? ⟨w.heap.size, 3, none⟩ = some (.int .i64 tm) := by rw [← hO]; simp
  have Z := Lib.hid (And.intro z0 (And.intro z1 (And.intro z2 z3)))
  have hs0 : w.heap.size < (w.alloc O).heap.size := by simp
  have HBX := Lib.hid (And.intro hbx hs0)
  have HH := Lib.hid (And.intro hname (And.intro hks (And.intro hfs (And.intro ht (And.intro hf (And.intro henv (And.intro h8 (And.intro hT (And.intro hP (And.intro ht1 (And.intro ht2 (And.intro hn hl))))))))))))
  obtain ⟨W0, hW0⟩ : ∃ W0, w.alloc O = W0 := ⟨_, rfl⟩
  rw [hW0] at M25 Z HBX
  rw [← hO] at hW0
  obtain ⟨i0, hi, hz0, hz1, hz2⟩ := info_parts Rp.info9
  have HI := Lib.hid hi
  have HZ0 := Lib.hid hz0
  have HZ1 := Lib.hid hz1
  have HZ2 := Lib.hid hz2
  clear hPP hbx hname hks hfs ht hf henv h8 hT hP z0 z1 z2 z3 hs0 ht1 ht2 hO hi hz0 hz1 hz2
  obtain ⟨z0, z1, z2, z3⟩ := Z.out
  go_enter Tryz.func11, Tryz.ntmps11
  go_wp2_with fail
  refine M25.out.mono ?_
  rintro e w2 ⟨rfl, hb2⟩
  have c0 := (hb2.cell (p := ⟨w.heap.size, 0, none⟩) HBX.out.2).trans z0
  have c1 := (hb2.cell (p := ⟨w.heap.size, 1, none⟩) HBX.out.2).trans z1
  have c2 := (hb2.cell (p := ⟨w.heap.size, 2, none⟩) HBX.out.2).trans z2
  have c3 := (hb2.cell (p := ⟨w.heap.size, 3, none⟩) HBX.out.2).trans z3
  have HB2 := Lib.hid (HBX.out.1.trans (hb2.mono (Nat.le_of_lt HBX.out.2)))
  have hs2 : w.heap.size < w2.heap.size := Nat.lt_of_lt_of_le HBX.out.2 hb2.size
  obtain ⟨r, hr⟩ : ∃ r, rowB name n kf vf L = r := ⟨_, rfl⟩
  rw [hr]
  have HR := Lib.hid hr
  clear hb2 z0 z1 z2 z3 hr hW0
  cases r with
  | false =>
    go_wp2_with fail
    rw [← HPP.out]
    unfold RowP
    rw [HR.out]
    exact ⟨rfl, HB2.out⟩
  | true =>
    obtain ⟨gname, gks, gfs, gt, gf, genv, g8, gT, gP, gt1, gt2, gn, gl⟩ := HH.out
    have hrb := HR.out
    unfold rowB at hrb
    rw [Bool.and_eq_true, Bool.and_eq_true, Bool.and_eq_true, decide_eq_true_eq, decide_eq_true_eq] at hrb
    obtain ⟨r1, r2, r3, r4⟩ := hrb
    obtain ⟨p1, p2, p3⟩ := formed_parts r2
    have hlen := rTo_len gP (kf := kf) (vf := vf) (name := name) (n := n) r2 gfs L.length r1
    unfold rTo at hlen
    rw [List.length_append] at hlen
    have hjl := join_flat T r3
    have HAL : Hid (∀ k, k < L.length → fstep L k = true) := Lib.hid (fun k hk => by
      unfold fformB at r1
      exact List.all_eq_true.1 r1 k (List.mem_range.2 hk))
    have M26 := text name a n cap kf vf w2 gn gname gks (gt.later HB2.out)
    have htx : textB name n kf vf = (bs (textTo name kf vf n), 0) := by unfold textB; rw [r2]; rfl
    rw [htx] at M26
    have M26 := Lib.hid M26
    have HE := Lib.hid genv
    have H8 := Lib.hid g8
    have HGF := Lib.hid gf
    have HT := Lib.hid gT
    have HTP := Lib.hid gP
    have HFS := Lib.hid gfs
    have HTM := Lib.hid (And.intro gt1 gt2)
    have hL16 : L.length ≤ 16 := r4
    have HL0 := Lib.hid r3
    have sT : (bs (textTo name kf vf n)).size ≤ 3000000 := by rw [bs_size]; omega
    have HJL : Hid ((Lib.join ((L.map fun q => bs (fT T q)).map (·.data.toList)) [44]).length ≤ 3000000) := Lib.hid (by omega)
    clear hlen hjl r1 r2 r3 r4 p1 p2 p3 htx gname gks gfs gt gf genv g8 gT gP gt1 gt2 gn gl
    go_wp2_with fail
    refine M26.out.mono ?_
    rintro e w3 ⟨rfl, hb3⟩
    have d2 := (hb3.cell (p := ⟨w.heap.size, 2, none⟩) hs2).trans c2
    have d3 := (hb3.cell (p := ⟨w.heap.size, 3, none⟩) hs2).trans c3
    have HB3 := Lib.hid (HB2.out.trans (hb3.mono (Nat.le_of_lt hs2)))
    have hs3 : w.heap.size < w3.heap.size := Nat.lt_of_lt_of_le hs2 hb3.size
    have HD3 := Lib.hid d3
    have HS3 := Lib.hid hs3
    clear hb3 c0 c1 c2 c3 hs2 d3
    go_wp2_with fail
    go_loopw [6, 23] (fun v i wx => InPl T L w3 v i wx) (fun _ i _ => L.length - (intOf i).toNat)
    case atStart => exact ⟨0, rfl, Nat.zero_le _, World.ownsRow_nil _ _ _ _, Below.refl _ _⟩
    case round =>
      obtain ⟨k, rfl, hk, ho, hb⟩ := hrel
      rename World => wl
      obtain ⟨av, cv, hv⟩ := numb_slice ho
      subst hv
      have HO := Lib.hid ho
      have HB := Lib.hid hb
      have HBW := Lib.hid (HB3.out.trans (hb.mono HB3.out.size))
      have hszl := hb.size
      have hsz3 := HB3.out.size
      clear ho hb
      by_cases hkl : k = L.length
      · have hd3 := (HB.out.cell (p := ⟨w.heap.size, 3, none⟩) HS3.out).trans HD3.out
        obtain ⟨g, cc, hv, hcc, hcells⟩ := own_strs T HO.out hkl HL0.out
        injection hv with hv hv1 hv2
        subst hv
        have hgl := own_lt HO.out
        obtain ⟨J, hJ⟩ : ∃ J, Lib.join ((L.map fun q => bs (fT T q)).map (·.data.toList)) [44] = J := ⟨_, rfl⟩
        have HJ := Lib.hid (fun w2 (hb2 : Below wl.heap.size wl w2) => (Tryz.strings_Join g 0 cv (L.map fun q => bs (fT T q)) ⟨#[44]⟩ w2 (fun j u hj => (hb2.cell (p := ⟨g, 0 + j, none⟩) hgl).trans (by rw [Nat.zero_add]; exact hcells j u hj)) (Nat.lt_of_lt_of_le hgl hb2.size) (by rw [List.length_map]; omega) (by rw [List.length_map, ← hkl]; exact hcc) (by have := HJL.out; exact Nat.le_trans this (by decide))).mono (R' := fun e w' => e = .returned (.string (bs J)) ∧ Below w2.heap.size w2 w') (fun e w' h => ⟨h.1.trans (by rw [← hJ]; rfl), h.2⟩))
        have HI30 := Lib.hid (fun w2 (hb2 : Below wl.heap.size wl w2) => formInt_30 tm HTM.out.1 HTM.out.2 w2 (HE.out.later (HBW.out.trans (hb2.mono HBW.out.size)) H8.out).tab)
        have HRJ := Lib.hid (row_join T name n kf vf HL0.out tm)
        have sJ : (bs (Lib.join ((L.map fun q => bs (fT T q)).map (·.data.toList)) [44])).size ≤ 3000000 := by rw [bs_size]; exact HJL.out
        have sI : (bs (Lib.itoa tm)).size ≤ 21 := by rw [bs_size]; exact itoa_len20 HTM.out.1 HTM.out.2
        rw [List.length_map] at HJ
        rw [hJ] at HRJ sJ
        have HSW : Hid (w.heap.size < wl.heap.size) := Lib.hid (Nat.lt_of_lt_of_le HS3.out hszl)
        have hkl' : ¬ (k : Int) < (L.length : Int) := by omega
        subst hkl
        clear hJ hcells hv1 hv2 hgl
        go_wp2_with fail
        have hgd := cell_regrown hd3
        have cJ := fun d os => Calls.regrown_of (HJ.out (grow (redrawn wl d) os) (below_regrown wl d os))
        have cI := fun d os => Calls.regrown_of (HI30.out (grow (redrawn wl d) os) (below_regrown wl d os))
        refine wp_region_quiet_below (by kernel_rfl) (by kernel_rfl) ?_
        repeat (go_big_quiet_step ((first | with_reducible exact cJ _ _ | with_reducible exact cI _ _)))
        refine wpQuiet_nil ?_
        intro w7 hw7
        have hb7 := below_of_regrown hw7
        clear hgd cJ cI hw7
        go_wp2_with fail
        rw [← HPP.out]
        unfold RowP
        rw [HR.out, if_pos rfl, if_pos rfl, ← HRJ.out, ← row_text]
        exact ⟨rfl, HBW.out.trans (hb7.mono HBW.out.size)⟩
      · have hk2 : (k : Int) < (L.length : Int) := by omega
        have HKL : Hid (k < L.length) := Lib.hid (by omega)
        obtain ⟨b, off, hfa, hbl, f0, f1, f2, f3⟩ := (HGF.out.later HBW.out) k HKL.out
        have hfs := HAL.out k HKL.out
        have hok := fdOk_at HFS.out k
        have HTK := Lib.hid (take_strW T L HKL.out)
        unfold fstep at hfs
        rw [Bool.and_eq_true, Bool.and_eq_true] at hfs
        obtain ⟨hnm, hfv, _⟩ := hfs
        have hxx : (((fE L k).2.2.1.toNat : Nat) : Int) = (fE L k).2.2.1 := by have := hok.2; omega
        rw [← hxx] at hfv f2
        have hx64 : (fE L k).2.2.1.toNat < 18446744073709551616 := by have := hok.2; omega
        clear hok hxx
        obtain ⟨key, hkey⟩ : ∃ x, (fE L k).1 = x := ⟨_, rfl⟩
        obtain ⟨kd, hkd⟩ : ∃ x, (fE L k).2.1 = x := ⟨_, rfl⟩
        obtain ⟨x, hxd⟩ : ∃ x, (fE L k).2.2.1.toNat = x := ⟨_, rfl⟩
        obtain ⟨t, htd⟩ : ∃ x, (fE L k).2.2.2 = x := ⟨_, rfl⟩
        rw [hkey] at f0 hnm HTK
        rw [hkd] at f1 hfv HTK
        rw [hxd] at f2 hfv hx64 HTK
        rw [htd] at f3 hfv HTK
        have hpl := pv_len HTP.out hx64 hfv
        have hel := esc_name_le hnm
        have hnl := name_le hnm
        have M27 := Lib.hid (fun w2 (hb : Below w.heap.size w w2) => vprint_27 T HT.out HTP.out kd x t hx64 w2 (HE.out.later hb H8.out) (Nat.lt_of_lt_of_le H8.out hb.size))
        have M28 := Lib.hid (fun w' => escape key w' (Nat.le_trans (Nat.le_of_eq (Array.length_toList).symm) (Nat.le_trans hnl (by decide))))
        have sE : (bs (esc key.data.toList)).size ≤ 128 := by rw [bs_size]; exact hel
        have sV : (bs (pv T kd x t)).size ≤ 140002 := by rw [bs_size]; exact hpl.2
        have HFV := Lib.hid hfv
        subst hfa
        have hba : Below wl.heap.size wl (wl.alloc (.cells #[.string key, .int .i64 kd, .int .u64 (x : Int), .string t] 64 (0, 0))) := (Below.refl _ _).alloc (Nat.le_refl _) _
        have hnew := newest wl (.cells #[.string key, .int .i64 kd, .int .u64 (x : Int), .string t] 64 (0, 0))
        clear hkey hkd hxd htd hfv hnm hpl hel hnl hx64 hbl
        have HBA := Lib.hid hba
        have HNEW := Lib.hid hnew
        clear hba hnew
        go_wp2_with fail
        refine (M27.out _ (HBW.out.trans (HBA.out.mono HBW.out.size))).mono ?_
        intro e w4 h4
        unfold RPost at h4
        rw [HFV.out] at h4
        obtain ⟨rfl, hb4⟩ := h4
        have hk4 := (hb4.block _ (lt_of_block HNEW.out)).trans HNEW.out
        have g0 : w4.cell? ⟨wl.heap.size, 0, none⟩ = some (.string key) := Lib.cell_of_heap hk4 0
        have HB4 := Lib.hid (HBA.out.trans (hb4.mono HBA.out.size))
        clear hb4 hk4 f0 f1 f2 f3
        go_wp2_with fail
        refine (M28.out w4).mono ?_
        rintro e w5 ⟨rfl, hb5⟩
        have HB5 := Lib.hid (HB4.out.trans (hb5.mono HB4.out.size))
        have HO5 := Lib.hid (own_later HO.out HB5.out)
        have hsz5 := HB5.out.size
        have sE2 : (ByteArray.mk (esc key.data.toList).toArray).size ≤ 128 := sE
        have sE3 : (esc key.data.toList).length ≤ 128 := by rw [bs_size] at sE; exact sE
        clear hb5 g0
        go_wp2_with ((at_builtin; go_must (refine wpList_append_own_at _ rfl (.tmp 33) (.tmp 40) 67 rfl w3.heap.size 9 i0 _ 1 16 Tryz.underlying67 HI.out HZ0.out HZ1.out HZ2.out rfl (by decide) _ k _ rfl (World.ownsRow.alloc HO5.out _) ⟨w5.heap.size, 0, none⟩ 1 1 [_] rfl rfl (cell_one_new _ _ _) (by simp [Value.oneCell']) (by unfold maxLen; omega) (by omega) (by simp; omega) ?_); intro vn w6 hown1 hgrow1 hnn hat; clear hnn))
        have hB6 := ((HB.out.trans (HB5.out.mono hszl)).alloc (by omega) _).grown hgrow1 (by simp; omega) (fun j hj => (HO5.out.lt j hj).1)
        refine ⟨⟨k + 1, by go_num, HKL.out, ?_, hB6⟩, by have := HKL.out; simp [intOf]; omega⟩
        rw [HTK.out]
        rw [field_join] at hown1
        exact hown1
end Go.Proofs.YtagiddbfhlokcaaGreatDoor.Ser
/- A row that came in is read. No condition. -/
namespace Go.Proofs.YtagiddbfhlokcaaGreatDoor.Ser
open Go.RowKit Go.Sort Go.Deep Go.WideShapes Go.ChangeShapes Go.Joins
set_option maxRecDepth 100000
theorem cells82 : Tryz.prog.cellsOf 82 = 2 := by kernel_rfl
theorem cells24 : Tryz.prog.cellsOf 24 = 2 := by kernel_rfl
theorem cells9 : Tryz.prog.cellsOf 9 = 1 := by kernel_rfl
theorem cells22 : Tryz.prog.cellsOf 22 = 1 := by kernel_rfl
theorem cells25 : Tryz.prog.cellsOf 25 = 1 := by kernel_rfl
theorem cells2 : Tryz.prog.cellsOf 2 = 1 := by kernel_rfl
theorem cells3 : Tryz.prog.cellsOf 3 = 1 := by kernel_rfl
theorem cells51 : Tryz.prog.cellsOf 51 = 1 := by kernel_rfl
theorem cells53 : Tryz.prog.cellsOf 53 = 3 := by kernel_rfl
theorem cells64 : Tryz.prog.cellsOf 64 = 4 := by kernel_rfl
theorem cells27 : Tryz.prog.cellsOf 27 = 4 := by kernel_rfl
theorem wf_i64 {z : Int} (h : (Lit.int .i64 z).wf = true) : -9223372036854775808 ≤ z ∧ z ≤ 9223372036854775807 := by
  simpa [Lit.wf, IntKind.min, IntKind.max, IntKind.signed, IntKind.bits] using h
theorem wf_u64 {z : Int} (h : (Lit.int .u64 z).wf = true) : 0 ≤ z ∧ z < 18446744073709551616 := by
  have : 0 ≤ z ∧ z ≤ 18446744073709551615 := by simpa [Lit.wf, IntKind.min, IntKind.max, IntKind.signed, IntKind.bits] using h
  omega
theorem tags_open {H : Type} {enc : TypeId × Value → H} {W : World} {fuel : Nat} {a : Option Addr} {n cap : Nat} {x : DataW H × List MemPlace} (hf : DataW.trod enc Tryz.prog W 0 (fun _ => true) true fuel 22 [.slice a n cap] = some x) :
    ∃ kf vf, n < 2 ^ 63 ∧ TagsAt W a n kf vf ∧ ∀ i, (kf i).size ≤ maxLen ∧ (vf i).size ≤ maxLen := by
  rcases open_slice Tryz.underlying22 hf with ⟨hcs, _⟩ | ⟨b, l, c, m, k, D, Pl, hcs, _, hl, hm, hmm, hd, hx⟩
  · simp at hcs
    obtain ⟨rfl, rfl, rfl⟩ := hcs
    exact ⟨fun _ => ⟨#[]⟩, fun _ => ⟨#[]⟩, by omega, fun i hi => absurd hi (by omega), fun i => ⟨Nat.zero_le _, Nat.zero_le _⟩⟩
  · simp at hcs
    obtain ⟨rfl, rfl, rfl⟩ := hcs
    simp only [if_true] at hmm
    subst hmm
    have hy : ∀ i, i < m → ∃ z : ByteArray × ByteArray, (z.1.size ≤ maxLen ∧ z.2.size ≤ maxLen) ∧ W.cell? (b.add (i * 2)) = some (.string z.1) ∧ W.cell? (b.add (i * 2 + 1)) = some (.string z.2) := by
      intro i hi
      obtain ⟨cs', h1, h2⟩ := hx i hi
      rw [cells82] at h1
      obtain ⟨_, hcl, hcell⟩ := World.cells?_some h1
      obtain ⟨y0, y1, k, _, _, e0, e1⟩ := trod_struct2 Tryz.underlying82 h2
      simp only [cells9] at e0 e1
      obtain ⟨z, g1, _, g3⟩ := DataW.trod_string Tryz.underlying9 e0
      obtain ⟨t, g4, _, g6⟩ := DataW.trod_string Tryz.underlying9 e1
      match cs', hcl with
      | [c0, c1], _ =>
        simp at g1 g4
        subst g1 g4
        refine ⟨(z, t), ⟨g3, g6⟩, ?_, ?_⟩
        · have := hcell 0 (by omega); rw [add_add] at this; simpa using this
        · have := hcell 1 (by omega); rw [add_add] at this; simpa using this
    haveI : Inhabited (ByteArray × ByteArray) := ⟨(⟨#[]⟩, ⟨#[]⟩)⟩
    obtain ⟨f, hf'⟩ := choose_lt hy
    unfold maxLen at hm
    refine ⟨fun i => if i < m then (f i).1 else ⟨#[]⟩, fun i => if i < m then (f i).2 else ⟨#[]⟩, by omega, ?_, ?_⟩
    · intro i hi
      obtain ⟨_, h1, h2⟩ := hf' i (by omega)
      have hsp : b.spot = none := World.cell?_spot (by have := (hf' 0 (by omega)).2.1; simpa [Addr.add] using this)
      obtain ⟨bb, off, spot⟩ := b
      simp only at hsp
      subst hsp
      have hb := World.block_lt_of_cell? W _ h1
      refine ⟨bb, off, rfl, ?_, ?_, ?_⟩
      · unfold Addr.add at hb; split at hb <;> exact hb
      · dsimp only; rw [if_pos (by omega), ← h1]
        congr 1
        unfold Addr.add
        split <;> simp_all
      · dsimp only; rw [if_pos (by omega), ← h2]
        congr 1
    · intro i
      dsimp only
      split
      · rename_i h; exact (hf' i h).1
      · exact ⟨Nat.zero_le _, Nat.zero_le _⟩
theorem fields_open {H : Type} {enc : TypeId × Value → H} {W : World} {fuel : Nat} {a : Option Addr} {n cap : Nat} {x : DataW H × List MemPlace} (hf : DataW.trod enc Tryz.prog W 0 (fun _ => true) true fuel 25 [.slice a n cap] = some x) :
    ∃ L : List Fd, L.length = n ∧ n < 2 ^ 63 ∧ FieldsAt W a L ∧ ∀ p ∈ L, FdOk p := by
  rcases open_slice Tryz.underlying25 hf with ⟨hcs, _⟩ | ⟨b, l, c, m, k, D, Pl, hcs, _, hl, hm, hmm, hd, hx⟩
  · simp at hcs
    obtain ⟨rfl, rfl, rfl⟩ := hcs
    exact ⟨[], rfl, by decide, fun i hi => absurd hi (Nat.not_lt_zero i), fun p hp => by cases hp⟩
  · simp at hcs
    obtain ⟨rfl, rfl, rfl⟩ := hcs
    simp only [if_true] at hmm
    subst hmm
    have hy : ∀ i, i < m → ∃ z : Fd, FdOk z ∧ W.cell? (b.add (i * 4)) = some (.string z.1) ∧ W.cell? (b.add (i * 4 + 1)) = some (.int .i64 z.2.1) ∧ W.cell? (b.add (i * 4 + 2)) = some (.int .u64 z.2.2.1) ∧ W.cell? (b.add (i * 4 + 3)) = some (.string z.2.2.2) := by
      intro i hi
      obtain ⟨cs', h1, h2⟩ := hx i hi
      rw [cells64] at h1
      obtain ⟨_, hcl, hcell⟩ := World.cells?_some h1
      obtain ⟨y0, y1, k, _, _, e0, e1⟩ := trod_struct2 Tryz.underlying64 h2
      match cs', hcl with
      | [c0, c1, c2, c3], _ =>
        have e0 : DataW.trod enc Tryz.prog W 0 (fun _ => true) true k 9 [c0] = some y0 := by simpa [cells9] using e0
        have e1 : DataW.trod enc Tryz.prog W 0 (fun _ => true) true k 53 [c1, c2, c3] = some y1 := by simpa [cells53] using e1
        obtain ⟨xs', k', _, _, _, hlen', hg'⟩ := DataW.trod_struct Tryz.underlying53 e1
        match xs', hlen' with
        | [u0, u1, u2], _ =>
          have f0 : DataW.trod enc Tryz.prog W 0 (fun _ => true) true k' 3 [c1] = some u0 := by simpa [cells3] using hg' 0 _ rfl
          have f1 : DataW.trod enc Tryz.prog W 0 (fun _ => true) true k' 51 [c2] = some u1 := by simpa [cells3, cells51] using hg' 1 _ rfl
          have f2 : DataW.trod enc Tryz.prog W 0 (fun _ => true) true k' 9 [c3] = some u2 := by simpa [cells3, cells51, cells9] using hg' 2 _ rfl
          obtain ⟨z0, g0, _, w0⟩ := DataW.trod_string Tryz.underlying9 e0
          obtain ⟨z1, g1, _, w1⟩ := DataW.trod_int Tryz.underlying3 f0
          obtain ⟨z2, g2, _, w2⟩ := DataW.trod_int Tryz.underlying51 f1
          obtain ⟨z3, g3, _, w3⟩ := DataW.trod_string Tryz.underlying9 f2
          simp at g0 g1 g2 g3
          subst g0 g1 g2 g3
          refine ⟨(z0, z1, z2, z3), ⟨w0, wf_u64 w2⟩, ?_, ?_, ?_, ?_⟩
          · have := hcell 0 (by omega); rw [add_add] at this; simpa using this
          · have := hcell 1 (by omega); rw [add_add] at this; simpa using this
          · have := hcell 2 (by omega); rw [add_add] at this; simpa using this
          · have := hcell 3 (by omega); rw [add_add] at this; simpa using this
    haveI : Inhabited Fd := ⟨(⟨#[]⟩, 0, 0, ⟨#[]⟩)⟩
    obtain ⟨f, hf'⟩ := choose_lt hy
    unfold maxLen at hm
    refine ⟨(List.range n).map f, (by rw [List.length_map, List.length_range]), (by omega), fun i hi => ?_, fun p hp => ?_⟩
    · have hi : i < n := by simpa using hi
      obtain ⟨_, h1, h2, h3, h4⟩ := hf' i (by omega)
      have hsp : b.spot = none := World.cell?_spot (by have := (hf' 0 (by omega)).2.1; simpa [Addr.add] using this)
      obtain ⟨bb, off, spot⟩ := b
      simp only at hsp
      subst hsp
      have hb := World.block_lt_of_cell? W _ h1
      have e : fE ((List.range n).map f) i = f i := by
        unfold fE
        rw [List.getD_eq_getElem?_getD, List.getElem?_map, List.getElem?_range hi]
        rfl
      rw [e]
      refine ⟨bb, off, rfl, ?_, ?_, ?_, ?_, ?_⟩
      · unfold Addr.add at hb; split at hb <;> exact hb
      · rw [← h1]
        congr 1
        unfold Addr.add
        split <;> simp_all
      · rw [← h2]; congr 1
      · rw [← h3]; congr 1
      · rw [← h4]; congr 1
    · obtain ⟨i, hi, rfl⟩ := List.mem_map.1 hp
      exact (hf' i (by have := List.mem_range.1 hi; omega)).1
theorem row_open {H : Type} {enc : TypeId × Value → H} {W : World} {base : Nat} {v : Value} {d : DataW H} {p : List MemPlace} (h : DataW.Trod enc Tryz.prog W 0 (fun _ => true) true 27 v d p) (o : Value.okWide Tryz.prog W .any base 27 v) :
    ∃ name a fa n cap fcap tm kf vf L, v = .agg #[.string name, .slice a n cap, .slice fa (L : List Fd).length fcap, .int .i64 tm] ∧ (-9223372036854775808 ≤ tm ∧ tm ≤ 9223372036854775807) ∧ n < 2 ^ 63 ∧ L.length < 2 ^ 63 ∧ name.size ≤ maxLen ∧ (∀ i, (kf i).size ≤ maxLen ∧ (vf i).size ≤ maxLen) ∧ (∀ p ∈ L, FdOk p) ∧ TagsAt W a n kf vf ∧ FieldsAt W fa L := by
  obtain ⟨cs, rfl, hsz⟩ := okWide_struct Tryz.underlying27 o
  obtain ⟨c0, c1, c2, c3, rfl⟩ := array4 (hsz.trans cells27)
  obtain ⟨fuel, hf⟩ := h
  obtain ⟨y0, y1, y2, k, _, _, e0, e1, e2⟩ := trod_struct3 Tryz.underlying27 hf
  have e0 : DataW.trod enc Tryz.prog W 0 (fun _ => true) true k 24 [c0, c1] = some y0 := by simpa [Value.cells, cells24] using e0
  have e1 : DataW.trod enc Tryz.prog W 0 (fun _ => true) true k 25 [c2] = some y1 := by simpa [Value.cells, cells25] using e1
  have e2 : DataW.trod enc Tryz.prog W 0 (fun _ => true) true k 2 [c3] = some y2 := by simpa [Value.cells, cells2] using e2
  obtain ⟨u0, u1, k', _, _, f0, f1⟩ := trod_struct2 Tryz.underlying24 e0
  have f0 : DataW.trod enc Tryz.prog W 0 (fun _ => true) true k' 9 [c0] = some u0 := by simpa [cells9] using f0
  have f1 : DataW.trod enc Tryz.prog W 0 (fun _ => true) true k' 22 [c1] = some u1 := by simpa [cells22] using f1
  obtain ⟨name, g0, _, w0⟩ := DataW.trod_string Tryz.underlying9 f0
  obtain ⟨a, n, cap, g1⟩ := slice_form Tryz.underlying22 f1
  obtain ⟨fa, m, fcap, g2⟩ := slice_form Tryz.underlying25 e1
  obtain ⟨tm, g3, _, w3⟩ := DataW.trod_int Tryz.underlying2 e2
  simp at g0 g1 g2 g3
  subst g0 g1 g2 g3
  obtain ⟨kf, vf, hn, ht, hs⟩ := tags_open f1
  obtain ⟨L, rfl, hm, hfa, hok⟩ := fields_open e1
  exact ⟨name, a, fa, n, cap, fcap, tm, kf, vf, L, rfl, wf_i64 w3, hn, hm, w0, hs, hok, ht, hfa⟩
end Go.Proofs.YtagiddbfhlokcaaGreatDoor.Ser
/- The law LineBack walked. Conditions: the row's memory; the tables. -/
namespace Go.Proofs.YtagiddbfhlokcaaGreatDoor.Ser
open Go.RowKit Go.Sort Ff
set_option maxRecDepth 100000
theorem TagsAt.congr {w : World} {a : Option Addr} {n : Nat} {kf vf kg vg : Nat → ByteArray} (h : TagsAt w a n kf vf) (e : ∀ i, i < n → kf i = kg i ∧ vf i = vg i) : TagsAt w a n kg vg := fun i hi => by
  obtain ⟨b, off, h1, h2, h3, h4⟩ := h i hi
  obtain ⟨e1, e2⟩ := e i hi
  exact ⟨b, off, h1, h2, by rw [← e1]; exact h3, by rw [← e2]; exact h4⟩
end Go.Proofs.YtagiddbfhlokcaaGreatDoor.Ser
/- Many rows, a line each: the plain law. Conditions: the tables; that the row is formed. -/
namespace Go.Proofs.YtagiddbfhlokcaaGreatDoor.Ser
open Go.RowKit Go.Sort Ff
set_option maxRecDepth 100000
/-- A text k times, a line feed behind each. -/
def rep (s : List UInt8) : Nat → List UInt8
  | 0 => []
  | k + 1 => rep s k ++ (s ++ [10])
theorem rep_len (s : List UInt8) (k : Nat) : (rep s k).length = k * (s.length + 1) := by
  induction k with
  | zero => simp [rep]
  | succ k ih => rw [rep, List.length_append, ih, List.length_append, List.length_singleton, Nat.succ_mul]
theorem rln_line : ∀ (s cur r : List UInt8), 10 ∉ s → rln cur (s ++ 10 :: r) = (cur ++ s) :: rln [] r
  | [], cur, r, _ => by
    rw [List.nil_append, List.append_nil, rln, if_pos rfl]
  | c :: s, cur, r, h => by
    rw [List.cons_append, rln, if_neg (fun e => h (by rw [e]; exact List.mem_cons_self ..)), rln_line s _ r (fun e => h (List.mem_cons_of_mem _ e))]
    simp
theorem rep_front (s : List UInt8) (k : Nat) : rep s (k + 1) = s ++ 10 :: rep s k := by
  induction k with
  | zero => simp [rep]
  | succ k ih =>
    have e : rep s (k + 1 + 1) = rep s (k + 1) ++ (s ++ [10]) := rfl
    have e2 : rep s (k + 1) = rep s k ++ (s ++ [10]) := rfl
    rw [e, ih]
    conv => rhs; rw [← ih, e2]
    simp
theorem rln_rep {s : List UInt8} (h : 10 ∉ s) : ∀ k, rln [] (rep s k) = List.replicate k s
  | 0 => by rfl
  | k + 1 => by
    rw [rep_front, rln_line s [] _ h, rln_rep h k, List.nil_append]
    rfl
theorem bst_rep {V : List UInt8 → Value × Int} {now : Int} {s : List UInt8} {R : LR} (hn : noise s = false) (hR : lineP V now s = R) (h0 : R.1 = 0) (n : Nat) : ∀ k, k ≤ n → bst V now (List.replicate n s) k = ((List.range k).map fun (i : Nat) => ((i : Int) + 1, R), [])
  | 0, _ => rfl
  | k + 1, hk => by
    rw [bst, bst_rep hn hR h0 n k (by omega), List.getD_eq_getElem?_getD, List.getElem?_replicate, if_pos (by omega)]
    show bstep V now _ k s = _
    unfold bstep
    rw [hn, if_neg (by decide), hR, if_pos h0, List.range_succ, List.map_append]
    rfl
theorem batP_rep {V : List UInt8 → Value × Int} {now : Int} {s : List UInt8} {R : LR} (hs : 10 ∉ s) (hn : noise s = false) (hR : lineP V now s = R) (h0 : R.1 = 0) (n : Nat) :
    batP V now (rln [] (rep s n)) = if 1000 < n then ([], [(0, 4)]) else ((List.range n).map fun (i : Nat) => ((i : Int) + 1, R), []) := by
  unfold batP
  rw [rln_rep hs, List.length_replicate]
  split
  · rfl
  · exact bst_rep hn hR h0 n n (Nat.le_refl _)
/-- No line feed. -/
def noLf (l : List UInt8) : Prop := 10 ∉ l
theorem noLf_app {a b : List UInt8} (ha : noLf a) (hb : noLf b) : noLf (a ++ b) := by
  intro h
  rcases List.mem_append.1 h with h | h
  · exact ha h
  · exact hb h
theorem noLf_cons {c : UInt8} {b : List UInt8} (hc : c ≠ 10) (hb : noLf b) : noLf (c :: b) := by
  intro h
  rcases List.mem_cons.1 h with h | h
  · exact hc h.symm
  · exact hb h
theorem noLf_flat {α : Type} {f : α → List UInt8} {L : List α} (h : ∀ x ∈ L, noLf (f x)) : noLf (L.flatMap f) := by
  intro hm
  obtain ⟨x, hx, hm⟩ := List.mem_flatMap.1 hm
  exact h x hx hm
theorem noLf_esc {l : List UInt8} (h : nameB l = true) : noLf (esc l) := by
  unfold nameB at h
  rw [Bool.and_eq_true] at h
  have h1 := List.all_eq_true.1 h.1
  refine noLf_flat fun c hc => ?_
  have hc10 : c ≠ 10 := by
    rintro rfl
    exact absurd (h1 _ hc) (by decide)
  unfold esc1
  split
  · exact noLf_cons (by decide) (noLf_cons hc10 (by intro h; cases h))
  · exact noLf_cons hc10 (by intro h; cases h)
theorem noLf_numE {l : List UInt8} (h : l.all PF.isNumE = true) : noLf l := PF.all_no h (by decide)
theorem noLf_quo (l : List UInt8) : noLf (PF.quo l) := by
  refine noLf_flat fun c _ => ?_
  unfold PF.q1
  split
  · exact noLf_cons (by decide) (noLf_cons (by decide) (by intro h; cases h))
  · split
    · exact noLf_cons (by decide) (noLf_cons (by decide) (by intro h; cases h))
    · split
      · exact noLf_cons (by decide) (noLf_cons (by decide) (by intro h; cases h))
      · rename_i h
        exact noLf_cons h (by intro h; cases h)
theorem noLf_pv {T : Nat → Nat × Nat} (hP : PF.TabPow (tabF T)) {k : Int} {x : Nat} {t : ByteArray} (h : formV k (x : Int) t = true) : noLf (pv T k x t) := by
  have hnil : noLf [] := by intro h; cases h
  by_cases h1 : k = 1
  · subst h1
    rw [formV_1, Bool.and_eq_true] at h
    rw [pv_1]
    exact noLf_numE (PF.flText_dec hP (fin_of h.2)).2.1
  · by_cases h2 : k = 2
    · subst h2
      rw [pv_2]
      exact noLf_app (noLf_numE (PF.itoa_numE _)) (noLf_cons (by decide) hnil)
    · by_cases h3 : k = 3
      · subst h3
        rw [pv_3]
        split
        · unfold noLf; decide
        · unfold noLf; decide
      · unfold pv
        rw [if_neg h1, if_neg h2, if_neg h3]
        unfold PF.quoted
        exact noLf_cons (by decide) (noLf_app (noLf_quo _) (noLf_cons (by decide) hnil))
theorem noLf_row {T : Nat → Nat × Nat} (hP : PF.TabPow (tabF T)) {name : ByteArray} {n : Nat} {kf vf : Nat → ByteArray} {L : List Fd} {tm : Int} (hfs : ∀ p ∈ L, FdOk p) (h : rowB name n kf vf L = true) : noLf (rText T name n kf vf L tm) ∧ noise (rText T name n kf vf L tm) = false := by
  obtain ⟨a1, a2, a3, a4, a5, a6, a7⟩ := row_parts h hfs
  have hnil : noLf [] := by intro h; cases h
  obtain ⟨p, ps, rfl⟩ : ∃ p ps, L = p :: ps := by
    cases L with
    | nil => simp at a6
    | cons p ps => exact ⟨p, ps, rfl⟩
  have e1 : rText T name n kf vf (p :: ps) tm = esc name.data.toList ++ ((tgs n kf vf).flatMap (fun q => 44 :: tT q) ++ 32 :: (fT T p ++ (ps.flatMap (fun q => 44 :: fT T q) ++ 32 :: Lib.itoa tm))) := by
    unfold rText rTo
    rw [text_tgs, text_fields]
    simp
  have hT : ∀ q, TgOk q → noLf (tT q) := fun q hq => noLf_app (noLf_esc hq.1) (noLf_cons (by decide) (noLf_esc hq.2))
  have hF : ∀ q, FdGood q → noLf (fT T q) := fun q hq => noLf_app (noLf_esc hq.1) (noLf_cons (by decide) (by
    unfold pvF
    have e : ((q.2.2.1.toNat : Nat) : Int) = q.2.2.1 := by have := hq.2.2.2; omega
    exact noLf_pv hP (by rw [e]; exact hq.2.1)))
  rw [e1]
  constructor
  · exact noLf_app (noLf_esc a1) (noLf_app (noLf_flat fun q hq => noLf_cons (by decide) (hT q (a2 q hq))) (noLf_cons (by decide) (noLf_app (hF p (a4 p (List.mem_cons_self ..))) (noLf_app (noLf_flat fun q hq => noLf_cons (by decide) (hF q (a4 q (List.mem_cons_of_mem _ hq)))) (noLf_cons (by decide) (noLf_numE (PF.itoa_numE _)))))))
  · have hne : ∃ c r, name.data.toList = c :: r := by
      unfold nameB at a1
      rw [Bool.and_eq_true, Bool.and_eq_true, decide_eq_true_eq] at a1
      cases hd : name.data.toList with
      | nil => rw [hd] at a1; exact absurd a1.2.1 (by decide)
      | cons c r => exact ⟨c, r, rfl⟩
    obtain ⟨c, r, hcr⟩ := hne
    have e2 : esc (c :: r) = esc1 c ++ esc r := by simp [esc]
    rw [hcr, e2]
    unfold esc1
    split
    · rfl
    · rename_i hs
      have hc : c ≠ 35 := by rintro rfl; exact hs (by decide)
      unfold noise
      simp [headIs, hc]
end Go.Proofs.YtagiddbfhlokcaaGreatDoor.Ser
