/- Special bytes and escaping, by the program and by the reference, each as the code computes it. Condition: the text's length (2^46 bytes at most). -/
import Derived.Test.YtobcpafalfdpkaaA
import Derived.Test.YtobcpafalfdpkaaBld
namespace Go.Proofs.Ytobcpafalfdpkaa
open Go.RowKit
def spec (c : UInt8) : Bool := c.toNat == 44 || (c.toNat == 61 || (c.toNat == 32 || (c.toNat == 35 || c.toNat == 92)))
def esc1 (c : UInt8) : List UInt8 := if spec c then [92, c] else [c]
def esc (l : List UInt8) : List UInt8 := l.flatMap esc1
theorem esc_snoc (l : List UInt8) (c : UInt8) : esc (l ++ [c]) = esc l ++ esc1 c := by simp [esc]
theorem esc1_le (c : UInt8) : (esc1 c).length ≤ 2 := by unfold esc1; split <;> simp
theorem esc_le (l : List UInt8) : (esc l).length ≤ 2 * l.length := by
  induction l with
  | nil => simp [esc]
  | cons c l ih =>
    have h := esc1_le c
    simp only [esc, List.flatMap_cons, List.length_append, List.length_cons] at *
    omega
theorem u8_of (c : UInt8) : ((c.toNat : Int)).toNat.toUInt8 = c := by simp
theorem idx_spec (c : UInt8) : (spec c = true → 0 ≤ Lib.indexByte [44, 61, 32, 35, 92] c) ∧ (spec c = false → Lib.indexByte [44, 61, 32, 35, 92] c = -1) := by
  have key : ∀ n : Fin 256, (spec (UInt8.ofNat n.val) = true → 0 ≤ Lib.indexByte [44, 61, 32, 35, 92] (UInt8.ofNat n.val)) ∧ (spec (UInt8.ofNat n.val) = false → Lib.indexByte [44, 61, 32, 35, 92] (UInt8.ofNat n.val) = -1) := by decide +kernel
  have := key ⟨c.toNat, c.toNat_lt⟩
  simpa using this
theorem idx_yes (c : UInt8) (h : spec c = true) : ∃ n : Int, 0 ≤ n ∧ ∀ w, Calls Try.prog 70 #[.string ⟨#[44, 61, 32, 35, 92]⟩, .int .u8 c.toNat] w fun e w' => e = .returned (.int .i64 n) ∧ w = w' := by
  refine ⟨_, (idx_spec c).1 h, fun w => (Try.strings_IndexByte _ _ w).mono fun e w' ⟨he, hw⟩ => ⟨?_, hw.symm⟩⟩
  rw [he, u8_of]
theorem idx_no (c : UInt8) (h : spec c = false) (w : World) : Calls Try.prog 70 #[.string ⟨#[44, 61, 32, 35, 92]⟩, .int .u8 c.toNat] w fun e w' => e = .returned (.int .i64 (-1)) ∧ w = w' := by
  refine (Try.strings_IndexByte _ _ w).mono fun e w' ⟨he, hw⟩ => ⟨?_, hw.symm⟩
  rw [he, u8_of, (idx_spec c).2 h]
theorem special (c : UInt8) (w : World) : Calls Try.prog 86 #[.int .u8 c.toNat] w fun e w' => e = .returned (.bool (spec c)) ∧ w = w' := by
  go_enter Try.func86, Try.ntmps86
  obtain ⟨n, hn⟩ : ∃ n, c.toNat = n := ⟨_, rfl⟩
  have hs : spec c = (n == 44 || (n == 61 || (n == 32 || (n == 35 || n == 92)))) := by unfold spec; rw [hn]
  rw [hn, hs]
  clear hs hn
  by_cases h1 : n = 44
  · subst h1; go_wp2; go_ret; exact ⟨rfl, rfl⟩
  by_cases h2 : n = 61
  · subst h2; go_wp2; go_ret; exact ⟨rfl, rfl⟩
  by_cases h3 : n = 32
  · subst h3; go_wp2; go_ret; exact ⟨rfl, rfl⟩
  by_cases h4 : n = 35
  · subst h4; go_wp2; go_ret; exact ⟨rfl, rfl⟩
  have b1 : ((n : Int) == 44) = false := by simp; omega
  have b2 : ((n : Int) == 61) = false := by simp; omega
  have b3 : ((n : Int) == 32) = false := by simp; omega
  have b4 : ((n : Int) == 35) = false := by simp; omega
  have c1 : (n == 44) = false := by simp; omega
  have c2 : (n == 61) = false := by simp; omega
  have c3 : (n == 32) = false := by simp; omega
  have c4 : (n == 35) = false := by simp; omega
  have HC := Lib.hid (And.intro c1 (And.intro c2 (And.intro c3 c4)))
  clear c1 c2 c3 c4 h1 h2 h3 h4
  go_wp2
  go_ret
  refine ⟨ret_bool ?_, rfl⟩
  rw [HC.out.1, HC.out.2.1, HC.out.2.2.1, HC.out.2.2.2, Bool.eq_iff_iff]
  simp
  omega
def InEsc (s : ByteArray) (w : World) (i : Value) (wr : World) : Prop := ∃ k : Nat, k ≤ s.size ∧ i = .int .i64 k ∧ Lib.IsBuilder 107 5 w.heap.size w.heap.size (Lib.byteCells (esc (s.data.toList.take k))) wr ∧ Below w.heap.size w wr
def Esced (s : ByteArray) (w : World) (e : Ending) (w' : World) : Prop := e = .returned (.string ⟨(esc s.data.toList).toArray⟩) ∧ Below w.heap.size w w'
theorem byteCells_len (l : List UInt8) : (Lib.byteCells l).length = l.length := by simp [Lib.byteCells]
theorem byteCells_app (l m : List UInt8) : Lib.byteCells (l ++ m) = Lib.byteCells l ++ Lib.byteCells m := by simp [Lib.byteCells]
theorem esc_take_le (s : ByteArray) (k : Nat) : (esc (s.data.toList.take k)).length ≤ 2 * k := by
  have h1 := esc_le (s.data.toList.take k)
  have h2 : (s.data.toList.take k).length ≤ k := List.length_take_le _ _
  omega
theorem escape (s : ByteArray) (w : World) (hs : s.size ≤ 70368744177664) : Calls Try.prog 55 #[.string s] w (Esced s w) := by
  go_enter Try.func55, Try.ntmps55
  go_wp2
  go_loopw [7] (fun i wr => InEsc s w i wr) (fun i _ => s.size - (intOf i).toNat)
  case atStart => exact ⟨0, Nat.zero_le _, rfl, Lib.fresh_isBuilder 107 5 w, (Below.refl _ _).alloc (Nat.le_refl _) _⟩
  case round =>
    obtain ⟨k, hk, rfl, hbd, hb⟩ := hrel
    have HD := Lib.hid hbd
    have HB := Lib.hid hb
    clear hbd hb
    have hle := esc_take_le s k
    by_cases hlt : k < s.size
    · obtain ⟨c, hcc⟩ : ∃ c, s[k] = c := ⟨_, rfl⟩
      have HT := Lib.hid (take_snoc s k hlt)
      rw [hcc] at HT
      have hsz := HB.out.size
      cases hsp : spec c with
      | true =>
        have HS := Lib.hid hsp
        clear hsp
        obtain ⟨n, hn, hcall⟩ := idx_yes c HS.out
        have HCL := Lib.hid hcall
        clear hcall
        go_wp2_with fail
        refine (HCL.out _).mono ?_
        rintro e w1 ⟨rfl, rfl⟩
        go_wp2_with fail
        refine (writeByte w.heap.size w.heap.size _ 92 wr HD.out (by rw [byteCells_len]; omega) hsz).mono ?_
        rintro e w1 ⟨rfl, hd1, hb1⟩
        have HD1 := Lib.hid hd1
        have HB1 := Lib.hid hb1
        clear hd1 hb1
        go_wp2_with fail
        refine (writeByte w.heap.size w.heap.size _ (c.toNat : Int) w1 (.inr HD1.out) (by rw [List.length_append, byteCells_len]; simp; omega) (Nat.le_trans hsz HB1.out.size)).mono ?_
        rintro e w2 ⟨rfl, hd2, hb2⟩
        have HD2 := Lib.hid hd2
        have HB2 := Lib.hid hb2
        clear hd2 hb2
        go_wp2_with fail
        go_roundw
        case rel => exact ⟨k + 1, by omega, by go_num, .inr (by rw [HT.out, esc_snoc, byteCells_app, show esc1 c = [92, c] from by simp [esc1, HS.out]]; simpa [Lib.byteCells] using HD2.out), (HB.out.trans HB1.out).trans HB2.out⟩
        case measure => simp [intOf]; omega
      | false =>
        have HS := Lib.hid hsp
        clear hsp
        go_wp2_with fail
        refine (idx_no c HS.out _).mono ?_
        rintro e w1 ⟨rfl, rfl⟩
        go_wp2_with fail
        refine (writeByte w.heap.size w.heap.size _ (c.toNat : Int) wr HD.out (by rw [byteCells_len]; omega) hsz).mono ?_
        rintro e w1 ⟨rfl, hd1, hb1⟩
        have HD1 := Lib.hid hd1
        have HB1 := Lib.hid hb1
        clear hd1 hb1
        go_wp2_with fail
        go_roundw
        case rel => exact ⟨k + 1, by omega, by go_num, .inr (by rw [HT.out, esc_snoc, byteCells_app, show esc1 c = [c] from by simp [esc1, HS.out]]; simpa [Lib.byteCells] using HD1.out), HB.out.trans HB1.out⟩
        case measure => simp [intOf]; omega
    · have hke : k = s.size := by omega
      have HK := Lib.hid (show s.data.toList.take k = s.data.toList by rw [hke, List.take_of_length_le (by simp)])
      have hsz := HB.out.size
      clear hke
      go_wp2_with fail
      refine (Try.Builder_String_any w.heap.size w.heap.size _ wr HD.out hsz).mono ?_
      rintro e w1 ⟨rfl, hb1⟩
      have HB1 := Lib.hid hb1
      clear hb1
      go_wp2_with fail
      go_ret
      rw [HK.out]
      exact ⟨rfl, HB.out.trans HB1.out⟩
end Go.Proofs.Ytobcpafalfdpkaa
