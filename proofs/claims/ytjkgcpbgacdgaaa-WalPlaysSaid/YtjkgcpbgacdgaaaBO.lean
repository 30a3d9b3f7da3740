/- A number is read from its bytes. Condition: it is one of so many bytes. -/
import Derived.Test.YtjkgcpbgacdgaaaBH
import Derived.Laws.BitsAllLaws
import Derived.Test.YtjkgcpbgacdgaaaBN
namespace Go.Proofs.Ytjkgcpbgacdgaaa
open Go.RowKit
theorem or_join (a b : Nat) (ha : a * 256 + b < 9223372036854775808) (hb : b < 256) : bits .or .i64 ((a * 256 : Nat) : Int) (b : Int) = ((a * 256 + b : Nat) : Int) := by
  have e8 : (2 : Nat) ^ 8 = 256 := rfl
  have hx : a * 256 ||| b = a * 256 + b := by
    have h1 : a * 256 % 2 ^ 8 = 0 := by rw [e8]; exact Nat.mul_mod_left a 256
    have h2 : b < 2 ^ 8 := by rw [e8]; exact hb
    exact nat_join 8 (a * 256) b h1 h2
  clear e8
  have h9 : a * 256 < 18446744073709551616 := Nat.lt_of_le_of_lt (Nat.le_add_right _ b) (Nat.lt_trans ha (by decide))
  show IntKind.i64.wrap ((BitVec.ofInt 64 ((a * 256 : Nat) : Int) ||| BitVec.ofInt 64 (b : Int)).toNat : Int) = _
  rw [BitVec.toNat_or, ofInt_u64 (a * 256) h9, ofInt_u64 b (by omega), hx]
  simp only [IntKind.wrap, IntKind.bits, IntKind.signed]
  simp
  omega
theorem pow_step (size k : Nat) (h : k < size) : 2 ^ (8 * (size - k)) = 2 ^ (8 * (size - (k + 1))) * 256 := by
  rw [show 8 * (size - k) = 8 * (size - (k + 1)) + 8 by omega, Nat.pow_add]
theorem numL_at (N size k : Nat) (h : k < size) : (numL (N : Int) size)[k]? = some (.int .u8 ((N / 2 ^ (8 * (size - (k + 1))) % 256 : Nat) : Int)) := by
  unfold numL
  rw [List.getElem?_map, List.getElem?_range h]
  show some (Value.int .u8 (IntKind.u8.wrap ((N : Int) / 2 ^ (8 * ((size - 1 - k : Nat) : Int)).toNat))) = _
  rw [IntKind.wrap_u8', show (8 * ((size - 1 - k : Nat) : Int)).toNat = 8 * (size - (k + 1)) by omega]
  congr 2
def InRead (w : World) (N size : Nat) (q i : Value) (wr : World) : Prop := ∃ k : Nat, k ≤ size ∧ i = .int .i64 k ∧ q = .int .i64 (N / 2 ^ (8 * (size - k)) : Nat) ∧ w = wr
set_option maxRecDepth 100000 in
theorem read42 (w : World) (v : Value) (N size : Nat) (h0 : 0 < size) (h8 : size ≤ 8) (hN : N < 2 ^ (8 * size)) (hN2 : N < 9223372036854775808) (h : SrcN w 1 v size (numL N size)) :
    Calls Try.prog 42 #[v] w fun e w' => e = .returned (.int .i64 N) ∧ w = w' := by
  obtain ⟨_, ⟨_, h1⟩ | ⟨ad, c, rfl, hc, _⟩⟩ := h
  · omega
  have hsp := World.cell?_spot (hc 0 _ (numL_at N size 0 h0))
  have hsp' : ad.spot = none := by simpa [Addr.add] using hsp
  obtain ⟨b, off, spot⟩ := ad
  simp only at hsp'
  subst hsp'
  have HC := Lib.hid hc
  have HN := Lib.hid hN
  clear hc hsp hN
  go_enter Try.func42, Try.ntmps42
  go_wp2_with fail
  go_loopw [3, 8] (fun q i wr => InRead w N size q i wr) (fun _ i _ => size - (intOf i).toNat)
  case atStart => exact ⟨0, Nat.zero_le _, rfl, by rw [Nat.sub_zero, Nat.div_eq_of_lt HN.out]; rfl, rfl⟩
  case round =>
    obtain ⟨k, hk, rfl, rfl, rfl⟩ := hrel
    by_cases hlt : k < size
    · have hcl := HC.out k _ (numL_at N size k hlt)
      have hcl' : w.cell? ⟨b, off + k, none⟩ = some (.int .u8 ((N / 2 ^ (8 * (size - (k + 1))) % 256 : Nat) : Int)) := by rw [← hcl]; congr 1; unfold Addr.add; split <;> simp_all
      obtain ⟨C, hC⟩ : ∃ C, N / 2 ^ (8 * (size - (k + 1))) = C := ⟨_, rfl⟩
      have hA : N / 2 ^ (8 * (size - k)) = C / 256 := by rw [pow_step size k hlt, ← Nat.div_div_eq_div_mul, hC]
      have hCN : C ≤ N := by rw [← hC]; exact Nat.div_le_self _ _
      rw [hA]
      rw [hC] at hcl'
      obtain ⟨a, ha⟩ : ∃ a, C / 256 = a := ⟨_, rfl⟩
      obtain ⟨d, hd⟩ : ∃ d, C % 256 = d := ⟨_, rfl⟩
      have hor := or_join a d (by omega) (by omega)
      have hsum : a * 256 + d = C := by omega
      rw [hsum] at hor
      rw [ha]
      rw [hd] at hcl'
      have hd9 : d < 256 := by omega
      have ha9 : a * 256 ≤ 9223372036854775807 := by omega
      have HCC := Lib.hid hC
      clear hcl hC hA hsum
      go_wp2_with fail
      go_roundw
      case rel => exact ⟨k + 1, hlt, by go_num, by rw [HCC.out, ← hor, Int.natCast_mul]; rfl, rfl⟩
      case measure => simp [intOf]; omega
    · obtain rfl : k = size := by omega
      go_wp2_with fail
      go_ret
      refine ⟨?_, rfl⟩
      simp
end Go.Proofs.Ytjkgcpbgacdgaaa
/- Parts of a slice of bytes; an entry that lies in a block of the log's own; the log's size. No condition. -/
namespace Go.Proofs.Ytjkgcpbgacdgaaa
open Go.RowKit
theorem add_add5 (a : Addr) (i j : Nat) : (a.add i).add j = a.add (i + j) := by
  rcases a with ⟨b, off, _ | sp⟩
  · unfold Addr.add
    by_cases hi : i = 0
    · subst hi; simp
    · by_cases hj : j = 0
      · subst hj; simp [hi]
      · simp [hi, hj, Nat.add_assoc]
  · exact Go.Deep.add_add _ i j
theorem SrcN.sub {w : World} {ad : Addr} {n c : Nat} {bs : List Value} (h : SrcN w 1 (.slice (some ad) n c) n bs) (i j : Nat) (hij : i ≤ j) (hjn : j ≤ n) (hc : n ≤ c) :
    ∃ ad', (if c = i then some ad else (some ad).map (·.add (i * 1))) = some ad' ∧ ad'.block = ad.block ∧ SrcN w 1 (.slice (some ad') (j - i) (c - i)) (j - i) ((bs.drop i).take (j - i)) := by
  obtain ⟨hl, ⟨h1, _⟩ | ⟨ad0, c0, h1, h2, h3⟩⟩ := h
  · cases h1
  cases h1
  have hone : ∀ u ∈ (bs.drop i).take (j - i), u.oneCell' = true := fun u hu => h3 u (List.mem_of_mem_drop (List.mem_of_mem_take hu))
  have hlen : ((bs.drop i).take (j - i)).length = (j - i) * 1 := by simp; omega
  by_cases hci : c = i
  · refine ⟨ad, by rw [if_pos hci], rfl, hlen, .inr ⟨ad, _, rfl, fun k u hk => ?_, hone⟩⟩
    have := (List.getElem?_eq_some_iff.1 hk).1
    rw [hlen] at this
    omega
  · refine ⟨ad.add (i * 1), by rw [if_neg hci]; rfl, add_block _ _, hlen, .inr ⟨_, _, rfl, fun k u hk => ?_, hone⟩⟩
    have hk1 := (List.getElem?_eq_some_iff.1 hk).1
    rw [hlen] at hk1
    rw [add_add5, Nat.mul_one]
    refine h2 (i + k) u ?_
    rw [List.getElem?_take, if_pos (by omega), List.getElem?_drop] at hk
    exact hk
theorem slice23_from (a : Option Addr) (n c i : Nat) (z : Int) (hz : z = (i : Int)) (hi : i ≤ n) (w' : World) : (Instr.slice 23 (.slice a n c) (some (.int .i64 z)) none none).run Try.prog w' = .ok (.slice (if c = i then a else a.map (·.add (i * 1))) (n - i) (c - i)) w' := by
  subst hz
  have hso : (Try.prog.info? 5).map (·.size) = some 1 := by kernel_rfl
  simp [Instr.slice, Instr.sliceBounds, Instr.sliceBound, asIntOf, go_sem, hi]
theorem slice23_mid (a : Option Addr) (n c i j : Nat) (z y : Int) (hz : z = (i : Int)) (hy : y = (j : Int)) (hi : i ≤ j) (hj : j ≤ c) (w' : World) : (Instr.slice 23 (.slice a n c) (some (.int .i64 z)) (some (.int .i64 y)) none).run Try.prog w' = .ok (.slice (if c = i then a else a.map (·.add (i * 1))) (j - i) (c - i)) w' := by
  subst hz
  subst hy
  have hso : (Try.prog.info? 5).map (·.size) = some 1 := by kernel_rfl
  simp [Instr.slice, Instr.sliceBounds, Instr.sliceBound, asIntOf, go_sem, hi, hj]
/-- One entry more, in a block that the log has already. -/
theorem Wal.pushIn {N : Nat → Prop} {W w w3 w9 : World} {S T : Nat → Prop} {d m : Nat} {L : List Ent} {room fuse : Int} {down : Bool} {l : Nat} {first : Int} {v cv v9 : Value} {X : List (Value × List Value)} {size : Int} {over : Bool} {b : List Value} (h : Wal N W w S T d m L room fuse down l first v X size over) (hb3 : Below w.heap.size w w3) (hent : SrcN w 1 cv b.length b) (hb1 : ∀ u ∈ b, u.oneCell' = true)
    (hcv : ∀ g, cv.ownBlock = some g → T g ∧ g ≠ l ∧ g < w.heap.size ∧ v.ownBlock ≠ some g)
    (hg9 : (w3.alloc (.cells #[cv] 23)).grownBy w9 v.ownBlock) (hr9 : w9.ownsRow 0 23 1 v9 (X.length + 1) (X.map Prod.fst ++ [cv])) (hat : ∀ b, v9.ownBlock = some b → v.ownBlock = some b ∨ b = (w3.alloc (.cells #[cv] 23)).heap.size) (hl9 : w9.heap[l]? = some (logO d first v size over)) :
    Wal N W (w9.setCell ⟨l, 2, none⟩ v9) S (With T w (w9.setCell ⟨l, 2, none⟩ v9)) d m L room fuse down l first v9 (X ++ [(cv, b)]) size over := by
  have hll := blk_lt h.log.blk
  have hs3 := hb3.size
  have hsa : (w3.alloc (.cells #[cv] 23)).heap.size = w3.heap.size + 1 := by simp
  have hs9 := hg9.size
  have hsz : (w9.setCell ⟨l, 2, none⟩ v9).heap.size = w9.heap.size := by simp
  have old : ∀ k, k < w3.heap.size → v.ownBlock ≠ some k → k ≠ l → (w9.setCell ⟨l, 2, none⟩ v9).heap[k]? = w3.heap[k]? := fun k hk hv hl => by
    rw [log_other hl, hg9.block k (by omega) (fun e => hv e.symm), heap_alloc_old w3 _ hk]
  have hvT : ∀ g, v.ownBlock = some g → T g ∧ g ≠ l ∧ g < w.heap.size := fun g hg => h.log.mine g (.inl hg)
  have hv9 : ∀ g, v9.ownBlock = some g → g ≠ l ∧ g < w9.heap.size := fun g hg => by
    refine ⟨fun e => ?_, (hr9.lt g hg).2⟩
    obtain ⟨cur, hc⟩ := row_head hr9 hg
    rw [e, hl9] at hc
    unfold logO at hc
    simp at hc
  refine h.list ⟨?_, ?_, ?_, by rw [hsz]; omega, fun k hk hn => ?_⟩ (heap_setCell_same w9 l 2 _ 86 _ hl9) ?_ (fun x hx => ?_) (fun g hg => ?_) (fun x hx g hg => ?_)
  · show w9.os = w.os; exact hg9.os.trans hb3.os
  · show w9.tape = w.tape; exact hg9.tape.trans hb3.tape
  · show w9.output = w.output; exact hg9.output.trans hb3.output
  · rw [old k (by omega) (fun e => hn (hvT k e).1) (fun e => hn (e ▸ h.log.here))]
    exact hb3.block k hk
  · rw [List.length_append, List.map_append]
    exact row_same hr9 fun g hg => log_other (hv9 g hg).1
  · rcases List.mem_append.1 hx with hx | hx
    · refine ⟨(h.log.ent x hx).1.same fun g hg => ?_, (h.log.ent x hx).2⟩
      have h1 := h.log.mine g (.inr ⟨x, hx, hg⟩)
      rw [old g (by omega) (h.log.sep x hx g hg) h1.2.1]
      exact hb3.block g h1.2.2
    · have hx' := List.mem_singleton.1 hx
      subst hx'
      refine ⟨hent.same fun g hg => ?_, hb1⟩
      have h1 := hcv g hg
      rw [old g (by omega) h1.2.2.2 h1.2.1]
      exact hb3.block g h1.2.2.1
  · rcases hg with hg | ⟨x, hx, hg⟩
    · refine ⟨?_, (hv9 g hg).1, by rw [hsz]; exact (hv9 g hg).2⟩
      rcases hat g hg with h1 | h1
      · exact .inl (hvT g h1).1
      · exact .inr (by omega)
    · rcases List.mem_append.1 hx with hx | hx
      · have h1 := h.log.mine g (.inr ⟨x, hx, hg⟩)
        exact ⟨.inl h1.1, h1.2.1, by rw [hsz]; omega⟩
      · have hx' := List.mem_singleton.1 hx
        subst hx'
        have h1 := hcv g hg
        exact ⟨.inl h1.1, h1.2.1, by rw [hsz]; omega⟩
  · intro e
    rcases List.mem_append.1 hx with hx | hx
    · have h1 := h.log.mine g (.inr ⟨x, hx, hg⟩)
      rcases hat g e with h2 | h2
      · exact h.log.sep x hx g hg h2
      · omega
    · have hx' := List.mem_singleton.1 hx
      subst hx'
      have h1 := hcv g hg
      rcases hat g e with h2 | h2
      · exact h1.2.2.2 h2
      · omega
/-- The log's size alone. -/
theorem Wal.sized {N : Nat → Prop} {W w : World} {S T : Nat → Prop} {d m : Nat} {L : List Ent} {room fuse : Int} {down : Bool} {l : Nat} {first : Int} {v : Value} {X : List (Value × List Value)} {size : Int} {over : Bool} (h : Wal N W w S T d m L room fuse down l first v X size over) (z : Int) :
    Wal N W (w.setCell ⟨l, 3, none⟩ (.int .i64 z)) S T d m L room fuse down l first v X z over := by
  have hsz : (w.setCell ⟨l, 3, none⟩ (.int .i64 z)).heap.size = w.heap.size := by simp
  refine ⟨disk_log h.disk h.not, h.log.same (log_set3 h.log.blk) (by rw [hsz]; exact Nat.le_refl _) fun k _ hk _ => log_other hk, h.apart, fun k hk => by rw [hsz]; exact h.low k hk, h.below.trans (S' := fun k => k = l) ⟨rfl, rfl, rfl, by rw [hsz]; exact Nat.le_refl _, fun k _ hk => log_other hk⟩ fun k hk => ?_⟩
  rw [hk]
  exact (h.low l (.inr h.log.here)).1
end Go.Proofs.Ytjkgcpbgacdgaaa
/- The log opened on any disk whose log is whole up to a torn end. Conditions: the sizes. -/
namespace Go.Proofs.Ytjkgcpbgacdgaaa
open Go.RowKit
theorem str_of_srcN {w : World} {a : Option Addr} {n c : Nat} {l : List UInt8} (h : SrcN w 1 (.slice a n c) n (Lib.byteCells l)) : (convert 23 9 (.slice a n c)).run Try.prog w = .ok (.string ⟨l.toArray⟩) w := by
  obtain ⟨hl, ⟨h1, rfl⟩ | ⟨ad, c0, h1, h2, _⟩⟩ := h
  · cases h1
    have : l = [] := List.eq_nil_of_length_eq_zero (by rw [← Lib.byteCells_length l, hl])
    subst this
    rw [run_convert_bytes_string w 23 9 5 none 0 0 Try.underlying23 Try.underlying5 Try.underlying9]
    rfl
  · cases h1
    have hn : n = l.length := by rw [← Lib.byteCells_length l, hl]; omega
    subst hn
    refine run_convert_bytes_back w 23 9 5 ad c l Try.underlying23 Try.underlying5 Try.underlying9 fun j hj => ?_
    rw [h2 j (.int .u8 (l[j]).toNat) (by simp [Lib.byteCells, hj])]
def nilv (x : List Value) : Value × List Value := (.slice none 0 0, x)
theorem nilv_snd (Y : List (List Value)) : (Y.map nilv).map Prod.snd = Y := by
  rw [List.map_map]
  conv => rhs; rw [← List.map_id Y]
  rfl
/-- What can't be read as one entry more. -/
def Stuck (t : List Value) : Prop := t.length < 4 ∨ ∃ n t', t = numL (n : Nat) 4 ++ t' ∧ 1 ≤ n ∧ n ≤ 1048576 ∧ t'.length < n
def Found (L : List Ent) (F : Nat) (Y : List (List Value)) (t : List Value) (z : Nat) : Prop :=
  (look L nWal = none ∧ F = 0 ∧ Y = [] ∧ t = [] ∧ z = 0) ∨ ∃ e, look L nWal = some e ∧ e.bs = contL F (Y.map nilv) ++ t ∧ z = (contL F (Y.map nilv)).length
theorem look_drop {L : List Ent} {s r : ByteArray} (h : ¬ r.data = s.data) : look (dropE L s) r = look L r := by
  unfold look dropE
  induction L with
  | nil => rfl
  | cons e L ih =>
    by_cases h1 : e.name.data.toList = s.data.toList
    · have h2 : (e.name.data.toList == r.data.toList) = false := by
        rw [h1]
        simp
        intro e; exact h e.symm
      rw [List.filter_cons_of_neg (by simp [h1]), ih, List.find?_cons_of_neg (by simp [h2])]
    · rw [List.filter_cons_of_pos (by simpa using h1)]
      by_cases h2 : (e.name.data.toList == r.data.toList) = true
      · rw [List.find?_cons, List.find?_cons, h2]
      · rw [List.find?_cons, List.find?_cons, Bool.eq_false_iff.2 h2]
        exact ih
theorem look_rem (L : List Ent) (fuse : Int) (down : Bool) : look (remL L fuse down nNew) nWal = look L nWal := by
  unfold remL
  split
  · exact look_drop ne_data
  · rfl
def OpenSays (L : List Ent) (fuse : Int) (t : List Value) (z : Nat) (L' : List Ent) (fuse' : Int) (down' : Bool) (er : Int) : Prop :=
  (chE L fuse false nNew ≠ 0 ∧ chE L fuse false nNew ≠ 6 ∧ er = chE L fuse false nNew ∧ L' = remL L fuse false nNew ∧ fuse' = chF L fuse false nNew ∧ down' = chD L fuse false nNew) ∨
  ((chE L fuse false nNew = 0 ∨ chE L fuse false nNew = 6) ∧ look L nWal = none ∧ er = 0 ∧ L' = remL L fuse false nNew ∧ fuse' = chF L fuse false nNew ∧ down' = chD L fuse false nNew) ∨
  ((chE L fuse false nNew = 0 ∨ chE L fuse false nNew = 6) ∧ look L nWal ≠ none ∧ ∃ L2 f2 d2 c2,
    (t = [] ∧ L2 = remL L fuse false nNew ∧ f2 = chF L fuse false nNew ∧ d2 = chD L fuse false nNew ∧ c2 = 0 ∨
     t ≠ [] ∧ L2 = cutL (remL L fuse false nNew) (chF L fuse false nNew) (chD L fuse false nNew) nWal z ∧ f2 = cutF (remL L fuse false nNew) (chF L fuse false nNew) (chD L fuse false nNew) nWal z ∧ d2 = cutD (remL L fuse false nNew) (chF L fuse false nNew) (chD L fuse false nNew) nWal z ∧ c2 = cutE (remL L fuse false nNew) (chF L fuse false nNew) (chD L fuse false nNew) nWal z) ∧
    (c2 ≠ 0 ∧ er = c2 ∧ L' = L2 ∧ fuse' = f2 ∧ down' = d2 ∨ c2 = 0 ∧ er = chE L2 f2 d2 nWal ∧ L' = syncL L2 f2 d2 nWal ∧ fuse' = chF L2 f2 d2 nWal ∧ down' = chD L2 f2 d2 nWal))
def OpenPost (N : Nat → Prop) (W : World) (S : Nat → Prop) (d m : Nat) (L : List Ent) (room fuse : Int) (F : Nat) (Y : List (List Value)) (t : List Value) (z : Nat) (e : Ending) (w' : World) : Prop :=
  ∃ L' fuse' down' er, OpenSays L fuse t z L' fuse' down' er ∧
    ((er = 0 ∧ ∃ T' l v X, e = .returned (.tuple #[.pointer (some ⟨l, 0, none⟩), .int .i64 0]) ∧ Wal N W w' S T' d m L' room fuse' down' l F v X z false ∧ X.map Prod.snd = Y) ∨
     (er ≠ 0 ∧ e = .returned (.tuple #[.pointer none, .int .i64 er]) ∧ DiskAt w' S d m L' room fuse' down' ∧ (∀ k, S k → (N k ∨ W.heap.size ≤ k) ∧ k < w'.heap.size) ∧ Turns N W w'))
theorem Wal.disks {N : Nat → Prop} {W w w' : World} {S T : Nat → Prop} {d m : Nat} {L L' : List Ent} {room fuse fuse' : Int} {down down' : Bool} {l : Nat} {first : Int} {v : Value} {X : List (Value × List Value)} {size : Int} {over : Bool} (h : Wal N W w S T d m L room fuse down l first v X size over) (ht : Turns S w w') (hd : DiskAt w' S d m L' room fuse' down') : Wal N W w' S T d m L' room fuse' down' l first v X size over := by
  have hs := ht.size
  refine ⟨hd, h.log.same ((ht.block l (blk_lt h.log.blk) h.not).trans h.log.blk) hs fun k hk _ hkl => ht.block k hkl fun e => h.apart k e hk, h.apart, fun k hk => ⟨(h.low k hk).1, by have := (h.low k hk).2; omega⟩, h.below.trans ht fun k hk => (h.low k (.inl hk)).1⟩
def lenV : Value → Nat
  | .slice _ n _ => n
  | _ => 0
theorem contL_drop (F : Nat) (Y : List (List Value)) (t : List Value) (k : Nat) : (contL F (Y.map nilv) ++ t).drop (contL F ((Y.take k).map nilv)).length = ((Y.drop k).flatMap frameL) ++ t := by
  have h : contL F (Y.map nilv) = contL F ((Y.take k).map nilv) ++ (Y.drop k).flatMap frameL := by
    conv => lhs; rw [← List.take_append_drop k Y]
    unfold contL
    rw [List.map_append, List.flatMap_append, ← List.append_assoc]
    congr 1
    rw [List.flatMap_map]
    rfl
  rw [h, List.append_assoc, List.drop_left]
theorem drop_cons {Y : List (List Value)} {k : Nat} (h : k < Y.length) : ∃ y, Y[k]? = some y ∧ Y.drop k = y :: Y.drop (k + 1) ∧ Y.take (k + 1) = Y.take k ++ [y] := by
  refine ⟨Y[k], List.getElem?_eq_getElem h, List.drop_eq_getElem_cons h, ?_⟩
  rw [List.take_add_one, List.getElem?_eq_getElem h]; rfl
theorem contL_len1 (F : Nat) (Y : List (List Value)) (y : List Value) : (contL F ((Y ++ [y]).map nilv)).length = (contL F (Y.map nilv)).length + (4 + y.length) := by
  unfold contL
  simp [nilv, frameL, numL_len]
  omega
def InOpen (N : Nat → Prop) (W : World) (S : Nat → Prop) (d m : Nat) (L : List Ent) (room fuse : Int) (down : Bool) (F : Nat) (Y : List (List Value)) (t : List Value) (l g : Nat) (q : Value) (wr : World) : Prop :=
  ∃ (k : Nat) (ad : Addr) (c' p : Nat) (T : Nat → Prop) (v : Value) (X : List (Value × List Value)), k ≤ Y.length ∧ p = (contL F ((Y.take k).map nilv)).length ∧ q = .slice (some ad) (((Y.drop k).flatMap frameL) ++ t).length c' ∧ (((Y.drop k).flatMap frameL) ++ t).length ≤ c' ∧ ad.block = g ∧ SrcN wr 1 (.slice (some ad) (((Y.drop k).flatMap frameL) ++ t).length c') (((Y.drop k).flatMap frameL) ++ t).length (((Y.drop k).flatMap frameL) ++ t) ∧
    X.map Prod.snd = Y.take k ∧ Wal N W wr S T d m L room fuse down l F v X p false ∧ T g ∧ g ≠ l ∧ g < wr.heap.size ∧ v.ownBlock ≠ some g
end Go.Proofs.Ytjkgcpbgacdgaaa
