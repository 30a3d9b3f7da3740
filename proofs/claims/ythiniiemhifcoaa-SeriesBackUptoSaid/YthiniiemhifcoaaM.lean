/- A name's text is taken off a text from a place on, by the reference. Condition: the text's length. -/
import Derived.Test.YthiniiemhifcoaaL
namespace Go.Proofs.Ythiniiemhifcoaa
open Go.RowKit Go.Sort
theorem drop_cons (s : ByteArray) (k : Nat) (h : k < s.size) : s.data.toList.drop k = s[k] :: s.data.toList.drop (k + 1) := by
  rw [List.drop_eq_getElem_cons (by simpa using h)]; rfl
def PartPost (s : ByteArray) (o : Option (List UInt8 × List UInt8)) (w : World) (e : Ending) (w' : World) : Prop :=
  Below w.heap.size w w' ∧ match o with
    | some (b, r) => e = .returned (.tuple #[.string (ofL b), .int .i64 ((s.size - r.length : Nat) : Int), .bool true])
    | none => ∃ z, e = .returned (.tuple #[.string ⟨#[]⟩, .int .i64 z, .bool false])
def InPart (s : ByteArray) (k0 : Nat) (w : World) (i v : Value) (wr : World) : Prop :=
  ∃ (k : Nat) (l : List UInt8), i = .int .i64 k ∧ k ≤ s.size ∧ True ∧ scan [] (s.data.toList.drop k0) = scan l (s.data.toList.drop k) ∧ l.length ≤ k ∧ BOwn wr w.heap.size v l ∧ Below w.heap.size w wr
set_option maxRecDepth 100000 in
set_option maxHeartbeats 1000000 in
theorem part (s : ByteArray) (k0 : Nat) (w : World) (hs : s.size ≤ 140737488355328) (hk0 : k0 ≤ s.size) : Calls Try.prog 28 #[.string s, .int .i64 k0] w (PartPost s (scan [] (s.data.toList.drop k0)) w) := by
  obtain ⟨i0, hi, hz0, hz1, hz2⟩ := info_parts info5
  have HI := Lib.hid hi
  have HZ0 := Lib.hid hz0
  have HZ1 := Lib.hid hz1
  have HZ2 := Lib.hid hz2
  clear hi hz0 hz1 hz2
  go_enter Try.func28, Try.ntmps28
  go_wp2
  go_loopw [1, 7] (fun i v wr => InPart s k0 w i v wr) (fun i _ _ => s.size - (intOf i).toNat)
  case atStart => exact ⟨k0, [], rfl, hk0, trivial, rfl, Nat.zero_le _, BOwn.nil _ _, Below.refl _ _⟩
  case round =>
    obtain ⟨k, l, rfl, hk, _, hsc, hle, hown, hb⟩ := hrel
    have HO := Lib.hid hown
    have HB := Lib.hid hb
    have HSC := Lib.hid hsc
    have hsz := HB.out.size
    clear hown hb hsc
    by_cases hlt : k < s.size
    · obtain ⟨c, hcc⟩ : ∃ c, s[k] = c := ⟨_, rfl⟩
      have HT := Lib.hid (drop_cons s k hlt)
      rw [hcc] at HT
      by_cases h92 : c.toNat = 92
      · have hc92 : ((c.toNat : Int) == 92) = true := by simp; omega
        have H92 := Lib.hid h92
        clear h92
        by_cases h1 : k + 1 < s.size
        · obtain ⟨d, hdd⟩ : ∃ d, s[k + 1] = d := ⟨_, rfl⟩
          have HT1 := Lib.hid (drop_cons s (k + 1) h1)
          rw [hdd] at HT1
          have h1i : ¬ (s.size : Int) ≤ (k : Int) + 1 := by omega
          cases hsp : spec d with
          | true =>
            have HS := Lib.hid hsp
            clear hsp
            go_wp2_with fail
            refine (special d _).mono ?_
            rw [HS.out]
            rintro e w1 ⟨rfl, rfl⟩
            go_wp2_with ((at_builtin; refine wpList_append_own _ rfl (.tmp 32) (.tmp 37) 43 rfl w.heap.size 5 i0 _ 1 1 Try.underlying43 HI.out HZ0.out HZ1.out HZ2.out rfl (by omega) _ l.length _ rfl (World.ownsRow.alloc HO.out _) ⟨wr.heap.size, 0, none⟩ 1 1 [.int .u8 d.toNat] rfl rfl (World.news_of_block (cs := #[.int .u8 d.toNat]) (t := 5) (fr := (0, 0)) (heap_alloc_new wr _)) (by simp [Value.oneCell']) (by unfold maxLen; omega) (by omega) (by simp; omega) ?_; intro v1 w2 hown1 hgrow1 hnn; clear hnn))
            have hb2 := (HB.out.alloc hsz _).grown hgrow1 (by simp; omega) (fun j hj => own_ge HO.out hj)
            have HO1 := Lib.hid hown1
            have HB2 := Lib.hid hb2
            clear hb2 hown1 hgrow1
            go_wp2_with fail
            go_roundw
            case rel => exact ⟨k + 2, l ++ [d], rfl, by omega, by go_num, by rw [HSC.out, HT.out, HT1.out, scan_esc _ _ _ _ H92.out HS.out], by simp; omega, BOwn.snoc HO1.out rfl rfl, HB2.out⟩
            case measure => simp [intOf]; omega
          | false =>
            have HS := Lib.hid hsp
            clear hsp
            go_wp2_with fail
            refine (special d _).mono ?_
            rw [HS.out]
            rintro e w1 ⟨rfl, rfl⟩
            go_wp2_with fail
            go_ret3
            refine ⟨HB.out, ?_⟩
            rw [HSC.out, HT.out, HT1.out, scan_bad _ _ _ _ H92.out HS.out]
            exact ⟨_, rfl⟩
        · have h1i : (s.size : Int) ≤ (k : Int) + 1 := by omega
          have HE := Lib.hid (show s.data.toList.drop (k + 1) = [] from List.drop_eq_nil_of_le (by simp; omega))
          go_wp2_with fail
          go_ret3
          refine ⟨HB.out, ?_⟩
          rw [HSC.out, HT.out, HE.out, scan_end _ _ H92.out]
          exact ⟨_, rfl⟩
      · have hc92 : ((c.toNat : Int) == 92) = false := by simp; omega
        have H92 := Lib.hid h92
        clear h92
        cases hsp : spec c with
        | true =>
          have HS := Lib.hid hsp
          clear hsp
          have hcv := str_of_own HO.out
          go_wp2_with fail
          refine (special c _).mono ?_
          rw [HS.out]
          rintro e w1 ⟨rfl, rfl⟩
          go_wp2_with fail
          go_ret3
          refine ⟨HB.out, ?_⟩
          rw [HSC.out, HT.out, scan_stop _ _ _ H92.out HS.out, ← HT.out]
          have : (s.data.toList.drop k).length = s.size - k := by simp
          simp only [this]
          rw [show s.size - (s.size - k) = k by omega]
          rfl
        | false =>
          have HS := Lib.hid hsp
          clear hsp
          go_wp2_with fail
          refine (special c _).mono ?_
          rw [HS.out]
          rintro e w1 ⟨rfl, rfl⟩
          go_wp2_with ((at_builtin; refine wpList_append_own _ rfl (.tmp 43) (.tmp 45) 43 rfl w.heap.size 5 i0 _ 1 1 Try.underlying43 HI.out HZ0.out HZ1.out HZ2.out rfl (by omega) _ l.length _ rfl (World.ownsRow.alloc HO.out _) ⟨wr.heap.size, 0, none⟩ 1 1 [.int .u8 c.toNat] rfl rfl (World.news_of_block (cs := #[.int .u8 c.toNat]) (t := 5) (fr := (0, 0)) (heap_alloc_new wr _)) (by simp [Value.oneCell']) (by unfold maxLen; omega) (by omega) (by simp; omega) ?_; intro v1 w2 hown1 hgrow1 hnn; clear hnn))
          have hb2 := (HB.out.alloc hsz _).grown hgrow1 (by simp; omega) (fun j hj => own_ge HO.out hj)
          have HO1 := Lib.hid hown1
          have HB2 := Lib.hid hb2
          clear hb2 hown1 hgrow1
          go_wp2_with fail
          go_roundw
          case rel => exact ⟨k + 1, l ++ [c], rfl, by omega, by go_num, by rw [HSC.out, HT.out, scan_plain _ _ _ H92.out HS.out], by simp; omega, BOwn.snoc HO1.out rfl rfl, HB2.out⟩
          case measure => simp [intOf]; omega
    · have hke : k = s.size := by omega
      have HE := Lib.hid (show s.data.toList.drop k = [] from List.drop_eq_nil_of_le (by simp; omega))
      have HK := Lib.hid hke
      have hcv := str_of_own HO.out
      clear hke
      go_wp2_with fail
      go_ret3
      refine ⟨HB.out, ?_⟩
      rw [HSC.out, HE.out]
      simp only [scan, List.length_nil, Nat.sub_zero]
      rw [HK.out]
      rfl
end Go.Proofs.Ythiniiemhifcoaa
