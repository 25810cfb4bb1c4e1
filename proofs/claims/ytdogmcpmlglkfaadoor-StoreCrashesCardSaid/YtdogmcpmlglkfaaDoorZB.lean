/- Packages octets, crc and log walked. -/
import Derived.Test.YtdogmcpmlglkfaaDoorZA
import Derived.Laws.BitsAllLaws
import Derived.Laws.BytesArg
import Derived.Test.YtdogmcpmlglkfaaDoorShelf
import Derived.Deep.CutBlock
import Derived.Deep.DeepCutAuto

namespace Go.Proofs.YtdogmcpmlglkfaaDoor
open Go.RowKit Go.Proofs.YtdogmcpmlglkfaaDoorW.PrintWords

/-- Block g is a reader of s; bad or not. -/
def RRep (w : World) (g : Nat) (s : ByteArray) (bad : Bool) : Prop := w.heap[g]? = some (.cells #[.string s, .bool bad] 103)

theorem RRep.lt {w : World} {g : Nat} {s : ByteArray} {bad : Bool} (h : RRep w g s bad) : g < w.heap.size := (Array.getElem?_eq_some_iff.1 h).1
theorem RRep.below {w w' : World} {g : Nat} {s : ByteArray} {bad : Bool} (h : RRep w g s bad) (hb : Below w.heap.size w w') : RRep w' g s bad := (hb.block g h.lt).trans h

def tk (s : ByteArray) (bad : Bool) (n : Int) : ByteArray × ByteArray × Bool :=
  if bad = true ∨ n < 0 ∨ (s.size : Int) < n then (⟨#[]⟩, s, true) else (s.extract 0 n.toNat, s.extract n.toNat s.size, false)

set_option maxHeartbeats 1000000 in
set_option maxRecDepth 100000 in
theorem take_any {w : World} {g : Nat} {s : ByteArray} {bad : Bool} (n : Int) (h : RRep w g s bad) :
    Calls Tryd.prog 63 #[.pointer (some ⟨g, 0, none⟩), .int .i64 n] w fun e w' => e = .returned (.string (tk s bad n).1) ∧ RRep w' g (tk s bad n).2.1 (tk s bad n).2.2 ∧ Fr (fun b => b = g) w w' := by
  obtain ⟨c0, c1, cf⟩ := box2 h
  have f0 := cf 0
  have f1 := cf 1
  have H := Lib.hid h
  clear cf h
  have hset : ∀ b, RRep (w.setCell ⟨g, 1, none⟩ (.bool b)) g s b := fun b => setCell_row _ H.out
  have HS := Lib.hid hset
  clear hset
  cases bad with
  | true =>
    rw [show tk s true n = (⟨#[]⟩, s, true) by rw [tk, if_pos (.inl rfl)]]
    go_enter Tryd.func63, Tryd.ntmps63
    go_wp2_with fail
    go_ret
    exact ⟨rfl, HS.out true, (Fr.refl (fun b => b = g) w).setCell (p := ⟨g, 1, none⟩) (.inr rfl) _⟩
  | false =>
    by_cases h0 : n < 0
    · rw [show tk s false n = (⟨#[]⟩, s, true) by rw [tk, if_pos (.inr (.inl h0))]]
      go_enter Tryd.func63, Tryd.ntmps63
      go_wp2_with fail
      go_ret
      exact ⟨rfl, HS.out true, (Fr.refl (fun b => b = g) w).setCell (p := ⟨g, 1, none⟩) (.inr rfl) _⟩
    · by_cases h1 : (s.size : Int) < n
      · rw [show tk s false n = (⟨#[]⟩, s, true) by rw [tk, if_pos (.inr (.inr h1))]]
        go_enter Tryd.func63, Tryd.ntmps63
        go_wp2_with fail
        go_ret
        exact ⟨rfl, HS.out true, (Fr.refl (fun b => b = g) w).setCell (p := ⟨g, 1, none⟩) (.inr rfl) _⟩
      · rw [show tk s false n = (s.extract 0 n.toNat, s.extract n.toNat s.size, false) by rw [tk, if_neg (by rintro (h | h | h); cases h; exact h0 h; exact h1 h)]]
        have hp0 : 0 ≤ n := by omega
        have hp1 : n ≤ (s.size : Int) := by omega
        go_enter Tryd.func63, Tryd.ntmps63
        go_wp2_with fail
        go_ret
        exact ⟨rfl, setCell_row _ H.out, (Fr.refl (fun b => b = g) w).setCell (p := ⟨g, 0, none⟩) (.inr rfl) _⟩

/-! ### numbers -/
def numL (l : List UInt8) : Int := l.foldl (fun n c => n * 256 + (c.toNat : Int)) 0
def num (s : ByteArray) : Int := numL s.data.toList

theorem numL_snoc (l : List UInt8) (c : UInt8) : numL (l ++ [c]) = numL l * 256 + (c.toNat : Int) := by simp [numL]
theorem numL_fold : ∀ (l : List UInt8) (a : Int), 0 ≤ a → 0 ≤ l.foldl (fun n c => n * 256 + (c.toNat : Int)) a ∧ l.foldl (fun n c => n * 256 + (c.toNat : Int)) a < (a + 1) * 256 ^ l.length
  | [], a, h => ⟨h, by simp; omega⟩
  | c :: l, a, h => by
    have hc := c.toNat_lt
    obtain ⟨h1, h2⟩ := numL_fold l (a * 256 + (c.toNat : Int)) (by omega)
    refine ⟨h1, ?_⟩
    simp only [List.foldl_cons, List.length_cons]
    have hp : (0 : Int) ≤ 256 ^ l.length := Int.pow_nonneg (by decide)
    have h3 : (a * 256 + (c.toNat : Int) + 1) * 256 ^ l.length ≤ ((a + 1) * 256) * 256 ^ l.length := Int.mul_le_mul_of_nonneg_right (by omega) hp
    rw [Int.pow_succ, Int.mul_comm (256 ^ l.length) 256, ← Int.mul_assoc]
    omega

theorem numL_range (l : List UInt8) : 0 ≤ numL l ∧ numL l < 256 ^ l.length := by
  have := numL_fold l 0 (Int.le_refl 0)
  simpa [numL] using this

theorem numL_take {l : List UInt8} {j : Nat} (h : j < l.length) : numL (l.take (j + 1)) = numL (l.take j) * 256 + ((l.getD j 0).toNat : Int) := by
  rw [List.take_succ_eq_append_getElem h, numL_snoc, List.getD_eq_getElem?_getD, List.getElem?_eq_getElem h]
  rfl

theorem numL_small {l : List UInt8} (j : Nat) (h : j ≤ 3) : numL (l.take j) < 16777216 := by
  have h1 := (numL_range (l.take j)).2
  have h2 : (l.take j).length ≤ 3 := by rw [List.length_take]; omega
  have h3 : (256 : Int) ^ (l.take j).length ≤ 256 ^ 3 := by
    have : (256 : Nat) ^ (l.take j).length ≤ 256 ^ 3 := Nat.pow_le_pow_right (by decide) h2
    have h5 := Int.ofNat_le.2 this
    rwa [Int.natCast_pow, Int.natCast_pow] at h5
  have h4 : (256 : Int) ^ 3 = 16777216 := by decide
  omega

theorem i64_or_byte (A : Int) (C : Nat) (h0 : 0 ≤ A) (h1 : A < 16777216) (h2 : C < 256) : bits BinOp.or IntKind.i64 (A * 256) (C : Int) = A * 256 + (C : Int) := by
  obtain ⟨a, rfl⟩ := Int.eq_ofNat_of_zero_le h0
  have hx : (a * 256) ||| C = a * 256 + C := by
    have := Nat.shiftLeft_add_eq_or_of_lt (b := C) (i := 8) (by omega) a
    rw [Nat.shiftLeft_eq] at this
    exact this.symm
  show IntKind.i64.wrap ((BitVec.ofInt 64 ((a : Int) * 256) ||| BitVec.ofInt 64 (C : Int)).toNat : Int) = _
  rw [BitVec.toNat_or, show ((a : Int) * 256) = ((a * 256 : Nat) : Int) by omega, ofInt_u64 _ (by omega), ofInt_u64 _ (by omega), hx]
  exact IntWalk.i64_in _ (by omega)

set_option maxHeartbeats 1000000 in
set_option maxRecDepth 100000 in
theorem number_any {w : World} {g : Nat} {s : ByteArray} {bad : Bool} (n : Int) (h : RRep w g s bad) (hn : 0 ≤ n ∧ n ≤ 4) :
    Calls Tryd.prog 67 #[.pointer (some ⟨g, 0, none⟩), .int .i64 n] w fun e w' => e = .returned (.int .i64 (num (tk s bad n).1)) ∧ RRep w' g (tk s bad n).2.1 (tk s bad n).2.2 ∧ Fr (fun b => b = g) w w' := by
  have hsz : (tk s bad n).1.size ≤ 4 := by
    unfold tk
    split
    · exact Nat.zero_le _
    · show (s.extract 0 n.toNat).size ≤ 4
      rw [ByteArray.size_extract]; omega
  have HT := Lib.hid (take_any n h)
  obtain ⟨R, hR⟩ : ∃ R, R = tk s bad n := ⟨_, rfl⟩
  rw [← hR] at HT hsz ⊢
  obtain ⟨b, s', bad'⟩ := R
  have kb := fun W => print_bytes (P := Tryd.prog) 9 95 5 Tryd.underlying9 Tryd.underlying95 Tryd.underlying5 b W
  clear hR h
  go_enter Tryd.func67, Tryd.ntmps67
  go_wp2_with (go_at_call 63; refine HT.out.mono ?_; rintro e w1 ⟨rfl, hr1, hf1⟩; have HR1 := Lib.hid hr1; have HF1 := Lib.hid hf1; clear hr1 hf1)
  clear kb
  have hcell := fun (j : Nat) (hj : j < b.size) => Lib.bytesWorld_cell w1 5 b j hj
  have hbelow := bytes_below (Below.refl w1.heap.size w1) (Nat.le_refl _) 5 b
  obtain ⟨wy, hwy⟩ : ∃ wy, wy = Lib.bytesWorld w1 5 b := ⟨_, rfl⟩
  simp only [← hwy] at hcell hbelow ⊢
  have HCELL := Lib.hid hcell
  have HBEL := Lib.hid hbelow
  have hlen : b.data.toList.length = b.size := by rw [Array.length_toList]; rfl
  clear hwy hcell hbelow
  go_loopw [5, 7, 13] (fun n _ i wr => ∃ j : Nat, j ≤ b.size ∧ i = .int .i64 j ∧ n = .int .i64 (numL (b.data.toList.take j)) ∧ wr = wy) (fun _ _ i _ => b.size - (intOf i).toNat)
  case atStart => exact ⟨0, Nat.zero_le _, rfl, rfl, rfl⟩
  case round =>
    obtain ⟨j, hj, rfl, rfl, rfl⟩ := hrel
    by_cases hlt : j < b.size
    · have hc := HCELL.out j hlt
      have hr0 := (numL_range (b.data.toList.take j)).1
      have hr1 := numL_small (l := b.data.toList) j (by omega)
      have hst := numL_take (l := b.data.toList) (j := j) (by omega)
      obtain ⟨A, hA⟩ : ∃ A, A = numL (b.data.toList.take j) := ⟨_, rfl⟩
      obtain ⟨C, hC⟩ : ∃ C : Nat, C = (b.data.toList.getD j 0).toNat := ⟨_, rfl⟩
      have hC8 : C < 256 := by rw [hC]; exact UInt8.toNat_lt _
      rw [← hA] at hr0 hr1 ⊢
      rw [← hC] at hc
      rw [← hA, ← hC] at hst
      have HST := Lib.hid hst
      clear hst hA hC
      go_wp2_with fail
      exact ⟨⟨j + 1, by omega, by go_num, by rw [HST.out, i64_or_byte A C hr0 hr1 hC8], trivial⟩, by simp [intOf]; omega⟩
    · obtain rfl : j = b.size := by omega
      have ht : numL (b.data.toList.take b.size) = num b := by rw [← hlen, List.take_length]; rfl
      rw [ht]
      go_wp2_with fail
      go_ret
      exact ⟨rfl, HR1.out.below HBEL.out, HF1.out.trans (Fr.of_below (S := fun _ => False) HBEL.out) fun _ _ h => h.elim⟩

theorem num_range (s : ByteArray) : 0 ≤ num s ∧ num s < 256 ^ s.size := by
  have h := numL_range s.data.toList
  have e : s.data.toList.length = s.size := by rw [Array.length_toList]; rfl
  rw [e] at h
  exact h

theorem short_any {w : World} {g : Nat} {s : ByteArray} {bad : Bool} (h : RRep w g s bad) :
    Calls Tryd.prog 53 #[.pointer (some ⟨g, 0, none⟩)] w fun e w' => e = .returned (.int .i64 (num (tk s bad 2).1)) ∧ RRep w' g (tk s bad 2).2.1 (tk s bad 2).2.2 ∧ Fr (fun b => b = g) w w' := by
  have HN := Lib.hid (number_any 2 h (by omega))
  clear h
  go_enter Tryd.func53, Tryd.ntmps53
  go_wp2_with (go_at_call 67; refine HN.out.mono ?_; rintro e w1 ⟨rfl, hr1, hf1⟩; have HR1 := Lib.hid hr1; have HF1 := Lib.hid hf1; clear hr1 hf1)
  go_ret
  exact ⟨rfl, HR1.out, HF1.out⟩

theorem long_any {w : World} {g : Nat} {s : ByteArray} {bad : Bool} (h : RRep w g s bad) :
    Calls Tryd.prog 62 #[.pointer (some ⟨g, 0, none⟩)] w fun e w' => e = .returned (.int .i64 (num (tk s bad 4).1)) ∧ RRep w' g (tk s bad 4).2.1 (tk s bad 4).2.2 ∧ Fr (fun b => b = g) w w' := by
  have HN := Lib.hid (number_any 4 h (by omega))
  clear h
  go_enter Tryd.func62, Tryd.ntmps62
  go_wp2_with (go_at_call 67; refine HN.out.mono ?_; rintro e w1 ⟨rfl, hr1, hf1⟩; have HR1 := Lib.hid hr1; have HF1 := Lib.hid hf1; clear hr1 hf1)
  go_ret
  exact ⟨rfl, HR1.out, HF1.out⟩

theorem good_any {w : World} {g : Nat} {s : ByteArray} {bad : Bool} (h : RRep w g s bad) :
    Calls Tryd.prog 64 #[.pointer (some ⟨g, 0, none⟩)] w fun e w' => e = .returned (.bool (!bad)) ∧ Below w.heap.size w w' := by
  obtain ⟨c0, c1, cf⟩ := box2 h
  clear cf h
  go_enter Tryd.func64, Tryd.ntmps64
  go_wp2_with fail
  go_ret
  exact ⟨rfl, Below.refl _ _⟩

theorem left_any {w : World} {g : Nat} {s : ByteArray} {bad : Bool} (h : RRep w g s bad) :
    Calls Tryd.prog 68 #[.pointer (some ⟨g, 0, none⟩)] w fun e w' => e = .returned (.int .i64 (if bad then 0 else s.size)) ∧ Below w.heap.size w w' := by
  have HG := Lib.hid (good_any h)
  have H := Lib.hid h
  clear h
  cases bad with
  | true =>
    go_enter Tryd.func68, Tryd.ntmps68
    go_wp2_with (go_at_call 64; refine HG.out.mono ?_; rintro e w1 ⟨rfl, hb1⟩)
    go_ret
    exact ⟨rfl, hb1⟩
  | false =>
    go_enter Tryd.func68, Tryd.ntmps68
    go_wp2_with (go_at_call 64; refine HG.out.mono ?_; rintro e w1 ⟨rfl, hb1⟩; obtain ⟨c0, c1, _⟩ := box2 (H.out.below hb1))
    go_ret
    exact ⟨rfl, hb1⟩

theorem end_any {w : World} {g : Nat} {s : ByteArray} {bad : Bool} (h : RRep w g s bad) :
    Calls Tryd.prog 54 #[.pointer (some ⟨g, 0, none⟩)] w fun e w' => e = .returned (.bool (!bad && decide (s.size = 0))) ∧ Below w.heap.size w w' := by
  have HG := Lib.hid (good_any h)
  have H := Lib.hid h
  clear h
  cases bad with
  | true =>
    go_enter Tryd.func54, Tryd.ntmps54
    go_wp2_with (go_at_call 64; refine HG.out.mono ?_; rintro e w1 ⟨rfl, hb1⟩)
    go_ret
    exact ⟨rfl, hb1⟩
  | false =>
    by_cases hz : s.size = 0
    · rw [hz]
      go_enter Tryd.func54, Tryd.ntmps54
      go_wp2_with (first | (go_at_call 64; refine HG.out.mono ?_; rintro e w1 ⟨rfl, hb1⟩) | (go_at_call 68; refine (left_any (H.out.below hb1)).mono ?_; rintro e w2 ⟨rfl, hb2⟩; rw [hz]))
      go_ret
      exact ⟨rfl, hb1.trans (hb2.mono hb1.size)⟩
    · rw [show decide (s.size = 0) = false from decide_eq_false hz]
      have hz2 : ((s.size : Int) == 0) = false := by rw [beq_eq_false_iff_ne]; omega
      go_enter Tryd.func54, Tryd.ntmps54
      go_wp2_with (first | (go_at_call 64; refine HG.out.mono ?_; rintro e w1 ⟨rfl, hb1⟩) | (go_at_call 68; refine (left_any (H.out.below hb1)).mono ?_; rintro e w2 ⟨rfl, hb2⟩))
      go_ret
      exact ⟨rfl, hb1.trans (hb2.mono hb1.size)⟩

end Go.Proofs.YtdogmcpmlglkfaaDoor

namespace Go.Proofs.YtdogmcpmlglkfaaDoor
open Go.RowKit Go.Proofs.YtdogmcpmlglkfaaDoorW.PrintWords

def crcBit (r : Int) : Int := bits BinOp.xor IntKind.u32 (r / 2) (bits BinOp.and IntKind.u32 3988292384 (-bits BinOp.and IntKind.u32 r 1 % 4294967296))
def crcIt : Nat → Int → Int
  | 0, r => r
  | k + 1, r => crcBit (crcIt k r)
def crcL (r : Int) (l : List UInt8) : Int := l.foldl (fun r c => crcIt 8 (bits BinOp.xor IntKind.u32 r (c.toNat : Int))) r

def crcS (s : ByteArray) : Int := bits BinOp.xor IntKind.u32 IntKind.u32.max (crcL (bits BinOp.xor IntKind.u32 IntKind.u32.max 0) s.data.toList)

theorem bits_u32 (op : BinOp) (x y : Int) : 0 ≤ bits op .u32 x y ∧ bits op .u32 x y < 4294967296 := by
  unfold bits
  rw [IntKind.wrap_u32']
  omega

theorem crcS_range (s : ByteArray) : 0 ≤ crcS s ∧ crcS s < 4294967296 := bits_u32 _ _ _

theorem crcL_take {r : Int} {l : List UInt8} {j : Nat} (h : j < l.length) : crcL r (l.take (j + 1)) = crcIt 8 (bits BinOp.xor IntKind.u32 (crcL r (l.take j)) ((l.getD j 0).toNat : Int)) := by
  rw [List.take_succ_eq_append_getElem h, List.getD_eq_getElem?_getD, List.getElem?_eq_getElem h]
  unfold crcL
  rw [List.foldl_append]
  rfl

set_option maxHeartbeats 2000000 in
set_option maxRecDepth 100000 in
theorem more_any (s : ByteArray) (w : World) (hs : s.size ≤ 4611686018427387904) : Calls Tryd.prog 66 #[.int .u32 0, .string s] w fun e w' => e = .returned (.int .u32 (crcS s)) ∧ Below w.heap.size w w' := by
  have kb := fun W => print_bytes (P := Tryd.prog) 9 95 5 Tryd.underlying9 Tryd.underlying95 Tryd.underlying5 s W
  go_enter Tryd.func66, Tryd.ntmps66
  go_wp2_with fail
  clear kb
  have hcell := fun (j : Nat) (hj : j < s.size) => Lib.bytesWorld_cell w 5 s j hj
  have hbelow := bytes_below (Below.refl w.heap.size w) (Nat.le_refl _) 5 s
  obtain ⟨wy, hwy⟩ : ∃ wy, wy = Lib.bytesWorld w 5 s := ⟨_, rfl⟩
  simp only [← hwy] at hcell hbelow ⊢
  have HCELL := Lib.hid hcell
  have HBEL := Lib.hid hbelow
  have hlen : s.data.toList.length = s.size := by rw [Array.length_toList]; rfl
  clear hwy hcell hbelow
  obtain ⟨r0, hr0⟩ : ∃ r0, r0 = bits BinOp.xor IntKind.u32 IntKind.u32.max 0 := ⟨_, rfl⟩
  rw [← hr0]
  have HR0 := Lib.hid hr0
  clear hr0
  go_loopw [5, 7, 13, 21] (fun r _ i _ wr => ∃ j : Nat, j ≤ s.size ∧ i = .int .i64 j ∧ r = .int .u32 (crcL r0 (s.data.toList.take j)) ∧ wr = wy) (fun _ _ i _ _ => s.size - (intOf i).toNat)
  case atStart => exact ⟨0, Nat.zero_le _, rfl, rfl, rfl⟩
  case round =>
    obtain ⟨j, hj, rfl, rfl, rfl⟩ := hrel
    by_cases hlt : j < s.size
    · have hc := HCELL.out j hlt
      have hst := crcL_take (r := r0) (l := s.data.toList) (j := j) (by omega)
      obtain ⟨A, hA⟩ : ∃ A, A = crcL r0 (s.data.toList.take j) := ⟨_, rfl⟩
      obtain ⟨C, hC⟩ : ∃ C : Nat, C = (s.data.toList.getD j 0).toNat := ⟨_, rfl⟩
      have hC8 : C < 256 := by rw [hC]; exact UInt8.toNat_lt _
      rw [← hA] at ⊢
      rw [← hC] at hc
      rw [← hA, ← hC] at hst
      have HST := Lib.hid hst
      clear hst hA hC
      go_wp2_with fail
      obtain ⟨r1, hr1⟩ : ∃ r1, r1 = bits BinOp.xor IntKind.u32 A (C : Int) := ⟨_, rfl⟩
      rw [← hr1]
      have HR1 := Lib.hid hr1
      clear hr1
      obtain ⟨wo, rfl⟩ : ∃ wo : World, wo = wr := ⟨_, rfl⟩
      go_loopw [5, 21] (fun r i wr => ∃ k : Nat, k ≤ 8 ∧ i = .int .i64 k ∧ r = .int .u32 (crcIt k r1) ∧ wr = wo) (fun _ i _ => 8 - (intOf i).toNat)
      case atStart => exact ⟨0, by omega, rfl, rfl, rfl⟩
      case round =>
        obtain ⟨k, hk, rfl, rfl, rfl⟩ := hrel
        by_cases hk8 : k < 8
        · go_wp2_with fail
          exact ⟨⟨k + 1, by omega, by go_num, by rw [crcIt, crcBit], trivial⟩, by simp [intOf]; omega⟩
        · obtain rfl : k = 8 := by omega
          go_wp2_with fail
          exact ⟨⟨j + 1, by omega, by go_num, by rw [HST.out, HR1.out], trivial⟩, by simp [intOf]; omega⟩
    · obtain rfl : j = s.size := by omega
      have ht : crcL r0 (s.data.toList.take s.size) = crcL r0 s.data.toList := by rw [← hlen, List.take_length]
      rw [ht]
      go_wp2_with fail
      go_ret
      exact ⟨by rw [HR0.out, crcS]; rfl, HBEL.out⟩

theorem sum_any (s : ByteArray) (w : World) (hs : s.size ≤ 4611686018427387904) : Calls Tryd.prog 49 #[.string s] w fun e w' => e = .returned (.int .u32 (crcS s)) ∧ Below w.heap.size w w' := by
  go_enter Tryd.func49, Tryd.ntmps49
  go_wp2_with (go_at_call 66; refine (more_any s _ hs).mono ?_; rintro e w1 ⟨rfl, hb1⟩)
  go_ret
  exact ⟨rfl, hb1⟩

end Go.Proofs.YtdogmcpmlglkfaaDoor

namespace Go.Proofs.YtdogmcpmlglkfaaDoor
open Go.RowKit Go.Proofs.YtdogmcpmlglkfaaDoorW.PrintWords

def be2 (n : Int) : ByteArray := strOfNums [n / 256, n % 256]
def be4 (n : Int) : ByteArray := strOfNums [n / 16777216, n / 65536 % 256, n / 256 % 256, n % 256]

theorem be2_size (n : Int) : (be2 n).size = 2 := by rw [be2, strOfNums_size]; rfl
theorem be4_size (n : Int) : (be4 n).size = 4 := by rw [be4, strOfNums_size]; rfl

theorem boxL {w : World} {b : Nat} {c : Array Value} {t : TypeId} (h : w.heap[b]? = some (.cells c t)) : (∀ j u, c[j]? = some u → w.cell? ⟨b, j, none⟩ = some u) ∧ (∀ o, w.frozen? ⟨b, o, none⟩ = false) :=
  ⟨fun j u hj => by simp [World.cell?, h, hj], fun o => by simp [World.frozen?, h]⟩

def la2 (n : Int) : Nat → Array Value
  | 0 => #[.int .u8 0, .int .u8 0]
  | 1 => #[.int .u8 0, .int .u8 (n % 256)]
  | _ => #[.int .u8 (n / 256), .int .u8 (n % 256)]
def la4 (n : Int) : Nat → Array Value
  | 0 => #[.int .u8 0, .int .u8 0, .int .u8 0, .int .u8 0]
  | 1 => #[.int .u8 0, .int .u8 0, .int .u8 0, .int .u8 (n % 256)]
  | 2 => #[.int .u8 0, .int .u8 0, .int .u8 (n / 256 % 256), .int .u8 (n % 256)]
  | 3 => #[.int .u8 0, .int .u8 (n / 65536 % 256), .int .u8 (n / 256 % 256), .int .u8 (n % 256)]
  | _ => #[.int .u8 (n / 16777216), .int .u8 (n / 65536 % 256), .int .u8 (n / 256 % 256), .int .u8 (n % 256)]

set_option maxHeartbeats 4000000 in
set_option maxRecDepth 100000 in
theorem laid2_ok (n : Int) (w : World) (h0 : 0 ≤ n) (h1 : n < 65536) : Calls Tryd.prog 65 #[.int .i64 n, .int .i64 2] w fun e w' => e = .returned (.tuple #[.string (be2 n), .bool true]) ∧ Below w.heap.size w w' := by
  have hmk : ∀ w : World, (Instr.makeSlice 95 (.int .i64 2) (.int .i64 2)).run Tryd.prog w = .ok (.slice (some ⟨w.heap.size, 0, none⟩) 2 2) (w.alloc (.cells #[.int .u8 0, .int .u8 0] 5)) := fun _ => by kernel_rfl
  have hq : n / 65536 = 0 := by omega
  have HQ := Lib.hid hq
  have hkc := fun (W : World) (b : Nat) (xs : List Int) (hl : xs.length = 2) (hc : ∀ i, i < 2 → W.cell? ⟨b, 0 + i, none⟩ = some (.int .u8 (xs.getD i 0))) => run_convert_bytes_arg (P := Tryd.prog) W 95 5 Tryd.underlying95 Tryd.underlying5 b 0 2 2 xs hl hc 9 Tryd.underlying9
  have HKC := Lib.hid hkc
  clear hkc
  go_enter Tryd.func65, Tryd.ntmps65
  go_wp2_with fail
  obtain ⟨wy, hwy⟩ : ∃ wy, wy = w.alloc (.cells #[.int .u8 0, .int .u8 0] 5) := ⟨_, rfl⟩
  have hy : wy.heap[w.heap.size]? = some (.cells (la2 n 0) 5) := by rw [hwy]; exact heap_alloc_new _ _
  have hby : Below w.heap.size w wy := by rw [hwy]; exact (Below.refl _ _).alloc (Nat.le_refl _) _
  rw [← hwy]
  have HY := Lib.hid hy
  have HBY := Lib.hid hby
  clear hwy hy hby hmk hq
  go_loopw [7, 21] (fun _ i wr => ∃ j : Nat, j ≤ 2 ∧ i = .int .i64 j ∧ wr.heap[w.heap.size]? = some (.cells (la2 n j) 5) ∧ Below w.heap.size w wr) (fun _ i _ => 2 - (intOf i).toNat)
  case atStart => exact ⟨0, by omega, rfl, HY.out, HBY.out⟩
  case round =>
    obtain ⟨j, hj, rfl, hh, hb⟩ := hrel
    have HH := Lib.hid hh
    have HB := Lib.hid hb
    clear hb
    rcases (show j = 0 ∨ j = 1 ∨ j = 2 by omega) with rfl | rfl | rfl
    · have hc := (boxL hh).1 1 _ rfl
      have hf := (boxL hh).2 1
      clear hh
      go_wp2_with fail
      exact ⟨⟨1, by omega, rfl, setCell_row _ HH.out, HB.out.setCell (p := ⟨w.heap.size, 1, none⟩) (Nat.le_refl _) _⟩, by simp [intOf]⟩
    · have hc := (boxL hh).1 0 _ rfl
      have hf := (boxL hh).2 0
      clear hh
      go_wp2_with fail
      exact ⟨⟨2, by omega, rfl, setCell_row _ HH.out, HB.out.setCell (p := ⟨w.heap.size, 0, none⟩) (Nat.le_refl _) _⟩, by simp [intOf]⟩
    · have kc := HKC.out wr w.heap.size [n / 256, n % 256] rfl (fun i hi => by
        rw [Nat.zero_add]
        refine (boxL hh).1 i _ ?_
        match i, hi with
        | 0, _ => rfl
        | 1, _ => rfl)
      clear hh
      go_wp2_with fail
      go_ret2
      exact ⟨rfl, HB.out⟩

theorem laid2_bad (n : Int) (w : World) (h : n < 0 ∨ 65536 ≤ n) : Calls Tryd.prog 65 #[.int .i64 n, .int .i64 2] w fun e w' => e = .returned (.tuple #[.string ⟨#[]⟩, .bool false]) ∧ Below w.heap.size w w' := by
  by_cases h0 : n < 0
  · go_enter Tryd.func65, Tryd.ntmps65
    go_wp2_with fail
    go_ret2
    exact ⟨rfl, Below.refl _ _⟩
  · have hq : ¬ n / 65536 = 0 := by omega
    go_enter Tryd.func65, Tryd.ntmps65
    go_wp2_with fail
    go_ret2
    exact ⟨rfl, Below.refl _ _⟩

set_option maxHeartbeats 4000000 in
set_option maxRecDepth 100000 in
theorem laid4_ok (n : Int) (w : World) (h0 : 0 ≤ n) (h1 : n < 4294967296) : Calls Tryd.prog 65 #[.int .i64 n, .int .i64 4] w fun e w' => e = .returned (.tuple #[.string (be4 n), .bool true]) ∧ Below w.heap.size w w' := by
  have hmk : ∀ w : World, (Instr.makeSlice 95 (.int .i64 4) (.int .i64 4)).run Tryd.prog w = .ok (.slice (some ⟨w.heap.size, 0, none⟩) 4 4) (w.alloc (.cells #[.int .u8 0, .int .u8 0, .int .u8 0, .int .u8 0] 5)) := fun _ => by kernel_rfl
  have hq : n / 4294967296 = 0 := by omega
  have HQ := Lib.hid hq
  have hkc := fun (W : World) (b : Nat) (xs : List Int) (hl : xs.length = 4) (hc : ∀ i, i < 4 → W.cell? ⟨b, 0 + i, none⟩ = some (.int .u8 (xs.getD i 0))) => run_convert_bytes_arg (P := Tryd.prog) W 95 5 Tryd.underlying95 Tryd.underlying5 b 0 4 4 xs hl hc 9 Tryd.underlying9
  have HKC := Lib.hid hkc
  clear hkc
  go_enter Tryd.func65, Tryd.ntmps65
  go_wp2_with fail
  obtain ⟨wy, hwy⟩ : ∃ wy, wy = w.alloc (.cells #[.int .u8 0, .int .u8 0, .int .u8 0, .int .u8 0] 5) := ⟨_, rfl⟩
  have hy : wy.heap[w.heap.size]? = some (.cells (la4 n 0) 5) := by rw [hwy]; exact heap_alloc_new _ _
  have hby : Below w.heap.size w wy := by rw [hwy]; exact (Below.refl _ _).alloc (Nat.le_refl _) _
  rw [← hwy]
  have HY := Lib.hid hy
  have HBY := Lib.hid hby
  clear hwy hy hby hmk hq
  go_loopw [7, 21] (fun _ i wr => ∃ j : Nat, j ≤ 4 ∧ i = .int .i64 j ∧ wr.heap[w.heap.size]? = some (.cells (la4 n j) 5) ∧ Below w.heap.size w wr) (fun _ i _ => 4 - (intOf i).toNat)
  case atStart => exact ⟨0, by omega, rfl, HY.out, HBY.out⟩
  case round =>
    obtain ⟨j, hj, rfl, hh, hb⟩ := hrel
    have HH := Lib.hid hh
    have HB := Lib.hid hb
    clear hb
    rcases (show j = 0 ∨ j = 1 ∨ j = 2 ∨ j = 3 ∨ j = 4 by omega) with rfl | rfl | rfl | rfl | rfl
    · have hc := (boxL hh).1 3 _ rfl
      have hf := (boxL hh).2 3
      clear hh
      go_wp2_with fail
      exact ⟨⟨1, by omega, rfl, setCell_row _ HH.out, HB.out.setCell (p := ⟨w.heap.size, 3, none⟩) (Nat.le_refl _) _⟩, by simp [intOf]⟩
    · have hc := (boxL hh).1 2 _ rfl
      have hf := (boxL hh).2 2
      clear hh
      go_wp2_with fail
      exact ⟨⟨2, by omega, rfl, setCell_row _ HH.out, HB.out.setCell (p := ⟨w.heap.size, 2, none⟩) (Nat.le_refl _) _⟩, by simp [intOf]⟩
    · have hc := (boxL hh).1 1 _ rfl
      have hf := (boxL hh).2 1
      clear hh
      go_wp2_with fail
      exact ⟨⟨3, by omega, rfl, setCell_row _ HH.out, HB.out.setCell (p := ⟨w.heap.size, 1, none⟩) (Nat.le_refl _) _⟩, by simp [intOf]⟩
    · have hc := (boxL hh).1 0 _ rfl
      have hf := (boxL hh).2 0
      clear hh
      go_wp2_with fail
      exact ⟨⟨4, by omega, rfl, setCell_row _ HH.out, HB.out.setCell (p := ⟨w.heap.size, 0, none⟩) (Nat.le_refl _) _⟩, by simp [intOf]⟩
    · have kc := HKC.out wr w.heap.size [n / 16777216, n / 65536 % 256, n / 256 % 256, n % 256] rfl (fun i hi => by
        rw [Nat.zero_add]
        refine (boxL hh).1 i _ ?_
        match i, hi with
        | 0, _ => rfl
        | 1, _ => rfl
        | 2, _ => rfl
        | 3, _ => rfl)
      clear hh
      go_wp2_with fail
      go_ret2
      exact ⟨rfl, HB.out⟩

theorem laid4_bad (n : Int) (w : World) (h : n < 0 ∨ 4294967296 ≤ n) : Calls Tryd.prog 65 #[.int .i64 n, .int .i64 4] w fun e w' => e = .returned (.tuple #[.string ⟨#[]⟩, .bool false]) ∧ Below w.heap.size w w' := by
  by_cases h0 : n < 0
  · go_enter Tryd.func65, Tryd.ntmps65
    go_wp2_with fail
    go_ret2
    exact ⟨rfl, Below.refl _ _⟩
  · have hq : ¬ n / 4294967296 = 0 := by omega
    go_enter Tryd.func65, Tryd.ntmps65
    go_wp2_with fail
    go_ret2
    exact ⟨rfl, Below.refl _ _⟩

def short (n : Int) : ByteArray × Bool := if n < 0 ∨ 65536 ≤ n then (⟨#[]⟩, false) else (be2 n, true)

theorem shortn_any (n : Int) (w : World) : Calls Tryd.prog 57 #[.int .i64 n] w fun e w' => e = .returned (.tuple #[.string (short n).1, .bool (short n).2]) ∧ Below w.heap.size w w' := by
  by_cases h : n < 0 ∨ 65536 ≤ n
  · rw [show short n = (⟨#[]⟩, false) by rw [short, if_pos h]]
    go_enter Tryd.func57, Tryd.ntmps57
    go_wp2_with (go_at_call 65; refine (laid2_bad n _ h).mono ?_; rintro e w1 ⟨rfl, hb1⟩)
    go_ret2
    exact ⟨rfl, hb1⟩
  · rw [show short n = (be2 n, true) by rw [short, if_neg h]]
    go_enter Tryd.func57, Tryd.ntmps57
    go_wp2_with (go_at_call 65; refine (laid2_ok n _ (by omega) (by omega)).mono ?_; rintro e w1 ⟨rfl, hb1⟩)
    go_ret2
    exact ⟨rfl, hb1⟩

theorem longn_ok (n : Int) (w : World) (h0 : 0 ≤ n) (h1 : n < 4294967296) : Calls Tryd.prog 48 #[.int .i64 n] w fun e w' => e = .returned (.tuple #[.string (be4 n), .bool true]) ∧ Below w.heap.size w w' := by
  go_enter Tryd.func48, Tryd.ntmps48
  go_wp2_with (go_at_call 65; refine (laid4_ok n _ h0 h1).mono ?_; rintro e w1 ⟨rfl, hb1⟩)
  go_ret2
  exact ⟨rfl, hb1⟩

end Go.Proofs.YtdogmcpmlglkfaaDoor

namespace Go.Proofs.YtdogmcpmlglkfaaDoor
open Go.RowKit Go.Proofs.YtdogmcpmlglkfaaDoorW.PrintWords

theorem read_new (s : ByteArray) (w : World) : Calls Tryd.prog 52 #[.string s] w fun e w' => e = .returned (.pointer (some ⟨w.heap.size, 0, none⟩)) ∧ RRep w' w.heap.size s false ∧ Below w.heap.size w w' := by
  go_enter Tryd.func52, Tryd.ntmps52
  go_wp2_with fail
  go_ret
  exact ⟨rfl, heap_alloc_new _ _, (Below.refl _ _).alloc (Nat.le_refl _) _⟩

/-! ### Sealed -/
def sld (s : ByteArray) : ByteArray := be4 s.size ++ be4 (crcS s) ++ s
theorem sld_size (s : ByteArray) : (sld s).size = 8 + s.size := by
  unfold sld
  rw [ByteArray.size_append, ByteArray.size_append, be4_size, be4_size]

def sealF (s : ByteArray) : ByteArray × Bool := if 65535 < s.size then (⟨#[]⟩, false) else (sld s, true)

set_option maxHeartbeats 1000000 in
set_option maxRecDepth 100000 in
theorem sealed_any (s : ByteArray) (w : World) : Calls Tryd.prog 27 #[.string s] w fun e w' => e = .returned (.tuple #[.string (sealF s).1, .bool (sealF s).2]) ∧ Below w.heap.size w w' := by
  by_cases h : 65535 < s.size
  · rw [show sealF s = (⟨#[]⟩, false) by rw [sealF, if_pos h]]
    go_enter Tryd.func27, Tryd.ntmps27
    go_wp2_with fail
    go_ret2
    exact ⟨rfl, Below.refl _ _⟩
  · rw [show sealF s = (sld s, true) by rw [sealF, if_neg h]]
    obtain ⟨hc0, hc1⟩ := crcS_range s
    obtain ⟨c, hc⟩ : ∃ c, c = crcS s := ⟨_, rfl⟩
    have hsum := fun w => sum_any s w (by omega)
    unfold sld
    rw [← hc] at hc0 hc1 ⊢
    simp only [← hc] at hsum
    have HS := Lib.hid hsum
    have b1 := be4_size (s.size : Int)
    have b2 := be4_size c
    have hcat : ¬ 9223372036854775807 < (be4 (s.size : Int)).size + (be4 c).size := by omega
    have hcat2 : ¬ 9223372036854775807 < (be4 (s.size : Int) ++ be4 c).size + s.size := by rw [ByteArray.size_append]; omega
    have hL1 := fun w => longn_ok (s.size : Int) w (by omega) (by omega)
    have hL2 := fun w => longn_ok c w hc0 hc1
    obtain ⟨B1, hB1⟩ : ∃ B1, B1 = be4 (s.size : Int) := ⟨_, rfl⟩
    obtain ⟨B2, hB2⟩ : ∃ B2, B2 = be4 c := ⟨_, rfl⟩
    rw [← hB1, ← hB2] at hcat hcat2 ⊢
    simp only [← hB1] at hL1 b1
    simp only [← hB2] at hL2 b2
    have HL1 := Lib.hid hL1
    have HL2 := Lib.hid hL2
    clear hsum hc hB1 hB2 hL1 hL2
    go_enter Tryd.func27, Tryd.ntmps27
    go_wp2_with (first
      | (go_at_call 48; refine (HL1.out _).mono ?_; rintro e w1 ⟨rfl, hb1⟩; have HB1 := Lib.hid hb1; clear hb1 HL1)
      | (go_at_call 49; refine (HS.out _).mono ?_; rintro e w2 ⟨rfl, hb2⟩; have HB2 := Lib.hid (HB1.out.trans (hb2.mono HB1.out.size)); clear hb2)
      | (go_at_call 48; refine (HL2.out _).mono ?_; rintro e w3 ⟨rfl, hb3⟩; have HB3 := Lib.hid (HB2.out.trans (hb3.mono HB2.out.size)); clear hb3))
    go_ret2
    exact ⟨rfl, HB3.out⟩

/-! ### Open -/
def openF (s : ByteArray) : ByteArray × Int × Bool :=
  if 65535 < num (tk s false 4).1 then (⟨#[]⟩, 0, false)
  else if (tk (tk (tk s false 4).2.1 (tk s false 4).2.2 4).2.1 (tk (tk s false 4).2.1 (tk s false 4).2.2 4).2.2 (num (tk s false 4).1)).2.2 = true then (⟨#[]⟩, 0, false)
  else if crcS (tk (tk (tk s false 4).2.1 (tk s false 4).2.2 4).2.1 (tk (tk s false 4).2.1 (tk s false 4).2.2 4).2.2 (num (tk s false 4).1)).1 = num (tk (tk s false 4).2.1 (tk s false 4).2.2 4).1 then
    ((tk (tk (tk s false 4).2.1 (tk s false 4).2.2 4).2.1 (tk (tk s false 4).2.1 (tk s false 4).2.2 4).2.2 (num (tk s false 4).1)).1, 8 + num (tk s false 4).1, true)
  else (⟨#[]⟩, 0, false)

theorem tk_size {s : ByteArray} {bad : Bool} {n : Int} {m : Nat} (h : s.size ≤ m) : (tk s bad n).1.size ≤ m ∧ (tk s bad n).2.1.size ≤ m := by
  unfold tk
  split
  · exact ⟨Nat.zero_le _, h⟩
  · refine ⟨?_, ?_⟩
    · show (s.extract 0 n.toNat).size ≤ m
      rw [ByteArray.size_extract]; omega
    · show (s.extract n.toNat s.size).size ≤ m
      rw [ByteArray.size_extract]; omega

theorem tk4_size (s : ByteArray) (bad : Bool) : (tk s bad 4).1.size ≤ 4 := by
  unfold tk
  split
  · exact Nat.zero_le _
  · show (s.extract 0 (4 : Int).toNat).size ≤ 4
    rw [ByteArray.size_extract]
    have : (4 : Int).toNat = 4 := rfl
    omega

theorem Fr.rbelow {g : Nat} {w0 w w' : World} (h : Fr (fun b => b = g) w w') (h0 : Below w0.heap.size w0 w) (hg : w0.heap.size ≤ g) : Below w0.heap.size w0 w' :=
  h0.trans (Fr.to_below h h0.size fun k hk e => by omega)

set_option maxHeartbeats 2000000 in
set_option maxRecDepth 100000 in
theorem open_any (s : ByteArray) (w : World) (hs : s.size ≤ 4611686018427387904) : Calls Tryd.prog 47 #[.string s] w fun e w' => e = .returned (.tuple #[.string (openF s).1, .int .i64 (openF s).2.1, .bool (openF s).2.2]) ∧ Below w.heap.size w w' := by
  obtain ⟨R, hR⟩ : ∃ R, R = openF s := ⟨_, rfl⟩
  rw [← hR]
  unfold openF at hR
  have hA := fun (w : World) (g : Nat) (h : RRep w g s false) => long_any h
  have hsA := tk_size (s := s) (bad := false) (n := 4) hs
  have hnA := num_range (tk s false 4).1
  have hsz4 := tk4_size s false
  obtain ⟨⟨a1, a2, a3⟩, hdA⟩ : ∃ X, X = tk s false 4 := ⟨_, rfl⟩
  simp only [← hdA] at hA hsA hnA hR hsz4
  have hB := fun (w : World) (g : Nat) (h : RRep w g a2 a3) => long_any h
  have hsB := tk_size (s := a2) (bad := a3) (n := 4) hsA.2
  obtain ⟨⟨b1, b2, b3⟩, hdB⟩ : ∃ X, X = tk a2 a3 4 := ⟨_, rfl⟩
  simp only [← hdB] at hB hsB hR
  obtain ⟨N, hN⟩ : ∃ N, N = num a1 := ⟨_, rfl⟩
  simp only [← hN] at hA hnA hR
  have hC := fun (w : World) (g : Nat) (h : RRep w g b2 b3) => take_any N h
  have hsC := tk_size (s := b2) (bad := b3) (n := N) hsB.2
  obtain ⟨⟨c1, c2, c3⟩, hdC⟩ : ∃ X, X = tk b2 b3 N := ⟨_, rfl⟩
  simp only [← hdC] at hC hsC hR
  obtain ⟨M, hM⟩ : ∃ M, M = num b1 := ⟨_, rfl⟩
  simp only [← hM] at hB hR
  have hSum := fun w => sum_any c1 w hsC.1
  obtain ⟨hq0, hq1⟩ := crcS_range c1
  obtain ⟨Q, hQ⟩ : ∃ Q, Q = crcS c1 := ⟨_, rfl⟩
  simp only [← hQ] at hSum hR hq0 hq1
  have HA := Lib.hid hA
  have HB := Lib.hid hB
  have HC := Lib.hid hC
  have HSUM := Lib.hid hSum
  have hn0 := hnA.1
  have hn1 : N < 4294967296 := by
    have h4 : a1.size ≤ 4 := hsz4
    have h1 : (256 : Int) ^ a1.size ≤ 256 ^ 4 := by
      have h5 := Int.ofNat_le.2 (Nat.pow_le_pow_right (n := 256) (by decide) h4)
      rwa [Int.natCast_pow, Int.natCast_pow] at h5
    have h2 : (256 : Int) ^ 4 = 4294967296 := by decide
    have h3 := hnA.2
    omega
  clear hsz4 hA hB hC hSum hdA hdB hdC hN hM hQ hsA hsB hsC hnA hs
  by_cases hbig : 65535 < N
  · rw [if_pos hbig] at hR
    subst hR
    go_enter Tryd.func47, Tryd.ntmps47
    go_wp2_with (first
      | (go_at_call 52; refine (read_new s _).mono ?_; rintro e w1 ⟨rfl, hr1, hb1⟩; have HR1 := Lib.hid hr1; have HB1 := Lib.hid hb1; clear hr1 hb1)
      | (go_at_call 62; refine (HA.out _ _ HR1.out).mono ?_; rintro e w2 ⟨rfl, hr2, hf2⟩; have HR2 := Lib.hid hr2; have HB2 := Lib.hid (hf2.rbelow HB1.out (Nat.le_refl _)); clear hr2 hf2 HR1)
      | (go_at_call 62; refine (HB.out _ _ HR2.out).mono ?_; rintro e w3 ⟨rfl, hr3, hf3⟩; have HR3 := Lib.hid hr3; have HB3 := Lib.hid (hf3.rbelow HB2.out (Nat.le_refl _)); clear hr3 hf3))
    go_ret3
    exact ⟨rfl, HB3.out⟩
  · rw [if_neg hbig] at hR
    have hN2 : N < 4294967296 := hn1
    have hcat : IntKind.i64.wrap (8 + N) = 8 + N := IntWalk.i64_in _ (by omega)
    cases c3 with
    | true =>
      rw [if_pos rfl] at hR
      subst hR
      go_enter Tryd.func47, Tryd.ntmps47
      go_wp2_with (first
      | (go_at_call 52; refine (read_new s _).mono ?_; rintro e w1 ⟨rfl, hr1, hb1⟩; have HR1 := Lib.hid hr1; have HB1 := Lib.hid hb1; clear hr1 hb1)
      | (go_at_call 62; refine (HA.out _ _ HR1.out).mono ?_; rintro e w2 ⟨rfl, hr2, hf2⟩; have HR2 := Lib.hid hr2; have HB2 := Lib.hid (hf2.rbelow HB1.out (Nat.le_refl _)); clear hr2 hf2 HR1)
      | (go_at_call 62; refine (HB.out _ _ HR2.out).mono ?_; rintro e w3 ⟨rfl, hr3, hf3⟩; have HR3 := Lib.hid hr3; have HB3 := Lib.hid (hf3.rbelow HB2.out (Nat.le_refl _)); clear hr3 hf3)
      | (go_at_call 63; refine (HC.out _ _ HR3.out).mono ?_; rintro e w4 ⟨rfl, hr4, hf4⟩; have HR4 := Lib.hid hr4; have HB4 := Lib.hid (hf4.rbelow HB3.out (Nat.le_refl _)); clear hr4 hf4)
      | (go_at_call 64; refine (good_any HR4.out).mono ?_; rintro e w5 ⟨rfl, hb5⟩; have HB5 := Lib.hid (HB4.out.trans (hb5.mono HB4.out.size)); clear hb5)
      | (go_at_call 49; refine (HSUM.out _).mono ?_; rintro e w6 ⟨rfl, hb6⟩; have HB6 := Lib.hid (HB5.out.trans (hb6.mono HB5.out.size)); clear hb6))
      go_ret3
      exact ⟨rfl, HB5.out⟩
    | false =>
      rw [if_neg (by decide)] at hR
      by_cases he : Q = M
      · rw [if_pos he] at hR
        subst hR
        subst he
        go_enter Tryd.func47, Tryd.ntmps47
        go_wp2_with (first
      | (go_at_call 52; refine (read_new s _).mono ?_; rintro e w1 ⟨rfl, hr1, hb1⟩; have HR1 := Lib.hid hr1; have HB1 := Lib.hid hb1; clear hr1 hb1)
      | (go_at_call 62; refine (HA.out _ _ HR1.out).mono ?_; rintro e w2 ⟨rfl, hr2, hf2⟩; have HR2 := Lib.hid hr2; have HB2 := Lib.hid (hf2.rbelow HB1.out (Nat.le_refl _)); clear hr2 hf2 HR1)
      | (go_at_call 62; refine (HB.out _ _ HR2.out).mono ?_; rintro e w3 ⟨rfl, hr3, hf3⟩; have HR3 := Lib.hid hr3; have HB3 := Lib.hid (hf3.rbelow HB2.out (Nat.le_refl _)); clear hr3 hf3)
      | (go_at_call 63; refine (HC.out _ _ HR3.out).mono ?_; rintro e w4 ⟨rfl, hr4, hf4⟩; have HR4 := Lib.hid hr4; have HB4 := Lib.hid (hf4.rbelow HB3.out (Nat.le_refl _)); clear hr4 hf4)
      | (go_at_call 64; refine (good_any HR4.out).mono ?_; rintro e w5 ⟨rfl, hb5⟩; have HB5 := Lib.hid (HB4.out.trans (hb5.mono HB4.out.size)); clear hb5)
      | (go_at_call 49; refine (HSUM.out _).mono ?_; rintro e w6 ⟨rfl, hb6⟩; have HB6 := Lib.hid (HB5.out.trans (hb6.mono HB5.out.size)); clear hb6))
        go_ret3
        exact ⟨rfl, HB6.out⟩
      · rw [if_neg he] at hR
        subst hR
        have heb : (Q != M) = true := by simpa using he
        go_enter Tryd.func47, Tryd.ntmps47
        go_wp2_with (first
      | (go_at_call 52; refine (read_new s _).mono ?_; rintro e w1 ⟨rfl, hr1, hb1⟩; have HR1 := Lib.hid hr1; have HB1 := Lib.hid hb1; clear hr1 hb1)
      | (go_at_call 62; refine (HA.out _ _ HR1.out).mono ?_; rintro e w2 ⟨rfl, hr2, hf2⟩; have HR2 := Lib.hid hr2; have HB2 := Lib.hid (hf2.rbelow HB1.out (Nat.le_refl _)); clear hr2 hf2 HR1)
      | (go_at_call 62; refine (HB.out _ _ HR2.out).mono ?_; rintro e w3 ⟨rfl, hr3, hf3⟩; have HR3 := Lib.hid hr3; have HB3 := Lib.hid (hf3.rbelow HB2.out (Nat.le_refl _)); clear hr3 hf3)
      | (go_at_call 63; refine (HC.out _ _ HR3.out).mono ?_; rintro e w4 ⟨rfl, hr4, hf4⟩; have HR4 := Lib.hid hr4; have HB4 := Lib.hid (hf4.rbelow HB3.out (Nat.le_refl _)); clear hr4 hf4)
      | (go_at_call 64; refine (good_any HR4.out).mono ?_; rintro e w5 ⟨rfl, hb5⟩; have HB5 := Lib.hid (HB4.out.trans (hb5.mono HB4.out.size)); clear hb5)
      | (go_at_call 49; refine (HSUM.out _).mono ?_; rintro e w6 ⟨rfl, hb6⟩; have HB6 := Lib.hid (HB5.out.trans (hb6.mono HB5.out.size)); clear hb6))
        go_ret3
        exact ⟨rfl, HB6.out⟩

end Go.Proofs.YtdogmcpmlglkfaaDoor

namespace Go.Proofs.YtdogmcpmlglkfaaDoor
open Go.RowKit Go.Proofs.YtdogmcpmlglkfaaDoorW.PrintWords

theorem u8_back (n : Int) (h0 : 0 ≤ n) (h1 : n < 256) : ((UInt8.ofNat n.toNat).toNat : Int) = n := by
  rw [UInt8.toNat_ofNat']
  omega

theorem num_be4 (n : Int) (h0 : 0 ≤ n) (h1 : n < 4294967296) : num (be4 n) = n := by
  unfold num be4
  rw [strOfNums_data]
  simp only [List.map_cons, List.map_nil, numL, List.foldl_cons, List.foldl_nil]
  rw [u8_back _ (by omega) (by omega), u8_back _ (by omega) (by omega), u8_back _ (by omega) (by omega), u8_back _ (by omega) (by omega)]
  omega

theorem num_be2 (n : Int) (h0 : 0 ≤ n) (h1 : n < 65536) : num (be2 n) = n := by
  unfold num be2
  rw [strOfNums_data]
  simp only [List.map_cons, List.map_nil, numL, List.foldl_cons, List.foldl_nil]
  rw [u8_back _ (by omega) (by omega), u8_back _ (by omega) (by omega)]
  omega

theorem dlen (a : ByteArray) : a.size = a.data.toList.length := by rw [Array.length_toList]; rfl

theorem extract_left (a b : ByteArray) : (a ++ b).extract 0 a.size = a := by
  apply WideShapes.bytes_inj
  rw [show a.size = a.data.size from rfl]
  simp
  exact List.take_of_length_le (by rw [← dlen]; exact Nat.le_refl _)

theorem extract_right (a b : ByteArray) : (a ++ b).extract a.size (a ++ b).size = b := by
  apply WideShapes.bytes_inj
  rw [ByteArray.size_append, show a.size = a.data.size from rfl, show b.size = b.data.size from rfl]
  simp
  rw [List.drop_eq_nil_of_le (by rw [← dlen]; exact Nat.le_refl _), List.take_nil, List.nil_append]
  exact List.take_of_length_le (by rw [← dlen]; exact Nat.le_refl _)

theorem tk_append (a b : ByteArray) (n : Int) (h : n = a.size) : tk (a ++ b) false n = (a, b, false) := by
  subst h
  have hs := ByteArray.size_append (a := a) (b := b)
  unfold tk
  rw [if_neg (by rintro (h | h | h); cases h; omega; rw [hs] at h; omega), Int.toNat_natCast, extract_left, extract_right]

theorem openF_sld (s rest : ByteArray) (h : s.size ≤ 65535) : openF (sld s ++ rest) = (s, (8 : Int) + (s.size : Int), true) := by
  obtain ⟨hc0, hc1⟩ := crcS_range s
  have e : sld s ++ rest = be4 s.size ++ (be4 (crcS s) ++ (s ++ rest)) := by
    unfold sld
    rw [ByteArray.append_assoc, ByteArray.append_assoc]
  have t1 : tk (sld s ++ rest) false 4 = (be4 s.size, be4 (crcS s) ++ (s ++ rest), false) := by
    rw [e]; exact tk_append _ _ 4 (by rw [be4_size]; rfl)
  have t2 : tk (be4 (crcS s) ++ (s ++ rest)) false 4 = (be4 (crcS s), s ++ rest, false) := tk_append _ _ 4 (by rw [be4_size]; rfl)
  have n1 : num (be4 (s.size : Int)) = s.size := num_be4 _ (by omega) (by omega)
  have t3 : tk (s ++ rest) false (s.size : Int) = (s, rest, false) := tk_append _ _ _ rfl
  unfold openF
  rw [t1]
  simp only [t2, n1, t3]
  rw [if_neg (by omega), if_neg (by decide), num_be4 _ hc0 hc1, if_pos rfl]

end Go.Proofs.YtdogmcpmlglkfaaDoor

namespace Go.Proofs.YtdogmcpmlglkfaaDoor
open Go.RowKit Go.Proofs.YtdogmcpmlglkfaaDoorW.PrintWords

structure LSt where
  name : ByteArray
  last : Int
  size : Int
  count : Int
  broken : Bool

def lcells (L : LSt) (p : Nat) : Array Value := #[.pointer (some ⟨p, 0, none⟩), .string L.name, .int .i64 L.last, .int .i64 L.size, .int .i64 L.count, .bool L.broken]

/-- Block q is a log over the disk in block p. -/
def LogRep (w : World) (q p : Nat) (L : LSt) : Prop := w.heap[q]? = some (.cells (lcells L p) 61)

theorem LogRep.lt {w : World} {q p : Nat} {L : LSt} (h : LogRep w q p L) : q < w.heap.size := (Array.getElem?_eq_some_iff.1 h).1
theorem LogRep.below {w w' : World} {q p : Nat} {L : LSt} (h : LogRep w q p L) (hb : Below w.heap.size w w') : LogRep w' q p L := (hb.block q h.lt).trans h
theorem LogRep.drew {w : World} {q p : Nat} {L : LSt} (h : LogRep w q p L) : LogRep w.drew q p L := h

theorem LogRep.set {w : World} {q p : Nat} {L L' : LSt} (h : LogRep w q p L) (j : Nat) (v : Value) (hs : (lcells L p).setIfInBounds j v = lcells L' p) : LogRep (w.setCell ⟨q, j, none⟩ v) q p L' := by
  unfold LogRep
  rw [← hs]
  exact setCell_row _ h

theorem LogRep.ne {w : World} {q p r : Nat} {L : LSt} {s : DSt} (h : LogRep w q p L) (hd : DRep w p r s) : q ≠ p ∧ q ≠ r := by
  constructor
  · intro e
    have h1 := hd.1
    rw [← e, h] at h1
    simp only [Option.some.injEq, Obj.cells.injEq] at h1
    exact absurd h1.2.1 (by decide)
  · intro e
    subst e
    exact hd.2.not_cells h

theorem LogRep.dfr {w w' : World} {q p r : Nat} {L : LSt} {s : DSt} (h : LogRep w q p L) (hd : DRep w p r s) (hf : DFr p r w w') : LogRep w' q p L :=
  (hf.block q h.lt (by have := h.ne hd; rintro (e | e); exact this.1 e; exact this.2 e)).trans h

theorem box6 {w : World} {b : Nat} {x y z u v t6 : Value} {t : TypeId} (h : w.heap[b]? = some (.cells #[x, y, z, u, v, t6] t)) :
    w.cell? ⟨b, 0, none⟩ = some x ∧ w.cell? ⟨b, 1, none⟩ = some y ∧ w.cell? ⟨b, 2, none⟩ = some z ∧ w.cell? ⟨b, 3, none⟩ = some u ∧ w.cell? ⟨b, 4, none⟩ = some v ∧ w.cell? ⟨b, 5, none⟩ = some t6 ∧ (∀ o, w.frozen? ⟨b, o, none⟩ = false) := by
  refine ⟨by simp [World.cell?, h], by simp [World.cell?, h], by simp [World.cell?, h], by simp [World.cell?, h], by simp [World.cell?, h], by simp [World.cell?, h], fun o => by simp [World.frozen?, h]⟩

/-! ### segment -/
def dig (n : Nat) : ByteArray := ⟨(Lib.decDigits n).toArray⟩
def seg (name : ByteArray) (n : Nat) : ByteArray := name ++ ⟨#[46]⟩ ++ dig n

theorem dig_size {n : Nat} (h : n < 100) : 1 ≤ (dig n).size ∧ (dig n).size ≤ 2 := by
  have : ∀ k : Fin 100, 1 ≤ (Lib.decDigits k.val).length ∧ (Lib.decDigits k.val).length ≤ 2 := by decide +kernel
  have h1 := this ⟨n, h⟩
  have e : (dig n).size = (Lib.decDigits n).length := by simp [dig, ByteArray.size]
  rw [e]
  exact h1

theorem seg_size {name : ByteArray} {n : Nat} (h : n < 100) (hn : name.size ≤ 28) : 1 ≤ (seg name n).size ∧ (seg name n).size ≤ 32 := by
  have := dig_size h
  unfold seg
  rw [ByteArray.size_append, ByteArray.size_append]
  have : (⟨#[46]⟩ : ByteArray).size = 1 := rfl
  omega

set_option maxHeartbeats 1000000 in
set_option maxRecDepth 100000 in
theorem segment_any {w : World} {q p : Nat} {L : LSt} (n : Nat) (hn : n < 100) (h : LogRep w q p L) (hs : L.name.size ≤ 28) :
    Calls Tryd.prog 25 #[.pointer (some ⟨q, 0, none⟩), .int .i64 n] w fun e w' => e = .returned (.string (seg L.name n)) ∧ Below w.heap.size w w' := by
  obtain ⟨_, c1, _, _, _, _, _⟩ := box6 h
  have HI := Lib.hid (fun w => Tryd.strconv_Itoa_small n hn w)
  have hd := dig_size hn
  obtain ⟨d, hdd⟩ : ∃ d, d = dig n := ⟨_, rfl⟩
  have hseg : seg L.name n = L.name ++ ⟨#[46]⟩ ++ d := by rw [hdd]; rfl
  rw [hseg]
  have HI' := Lib.hid (show ∀ w, Calls Tryd.prog 45 #[.int .i64 n] w fun e w' => e = .returned (.string d) ∧ w' = w by rw [hdd]; exact HI.out)
  rw [← hdd] at hd
  have h1 : ¬ 9223372036854775807 < L.name.size + (⟨#[46]⟩ : ByteArray).size := by
    have : (⟨#[46]⟩ : ByteArray).size = 1 := rfl
    omega
  have h2 : ¬ 9223372036854775807 < (L.name ++ ⟨#[46]⟩ : ByteArray).size + d.size := by
    rw [ByteArray.size_append]
    have : (⟨#[46]⟩ : ByteArray).size = 1 := rfl
    omega
  have h3 : ¬ 9223372036854775807 < L.name.size + 1 := by omega
  have h4 : ¬ 9223372036854775807 < L.name.size + 1 + d.size := by omega
  obtain ⟨nm, hnm⟩ : ∃ nm, nm = L.name := ⟨_, rfl⟩
  rw [← hnm] at c1 h1 h2 h3 h4 ⊢
  clear h HI hseg hdd hnm hs
  have hbx := (Below.refl w.heap.size w).drew
  have hdx : w.drew.cell? ⟨q, 1, none⟩ = some (.string nm) := c1
  go_enter Tryd.func25, Tryd.ntmps25
  go_wp2_with fail
  go_region_held3 (fun x' => x'.cell? ⟨q, 1, none⟩ = some (.string nm) ∧ Below w.heap.size w x') (first | (refine ⟨?_, ?_⟩ <;> assumption) | go_keep)
    (first | (go_at_call 45; refine (HI'.out _).mono ?_; rintro e w5 ⟨rfl, rfl⟩))
  go_wp2_with fail
  go_ret
  exact ⟨rfl, hbx⟩

end Go.Proofs.YtdogmcpmlglkfaaDoor

namespace Go.Proofs.YtdogmcpmlglkfaaDoor
open Go.RowKit Go.Proofs.YtdogmcpmlglkfaaDoorW.PrintWords

structure LOk (L : LSt) : Prop where
  name : 1 ≤ L.name.size ∧ L.name.size ≤ 28
  last : -1 ≤ L.last ∧ L.last ≤ 98
  size : 0 ≤ L.size ∧ L.size ≤ 1000000000
  count : 0 ≤ L.count ∧ L.count ≤ 1000000000

def nextSeg (L : LSt) : Int := if L.last < 0 ∨ 4096 ≤ L.size then L.last + 1 else L.last
def nextAt (L : LSt) : Int := if L.last < 0 ∨ 4096 ≤ L.size then 0 else L.size

/-- What an append answers; what it leaves of the log and of its disk. -/
def logApp (L : LSt) (D : DSt) (rec : ByteArray) : Int × LSt × DSt :=
  if 65535 < rec.size then (3, L, D)
  else if L.broken = true then (6, L, D)
  else if (appendS D (seg L.name (nextSeg L).toNat) (sld rec)).1 = 0 then
    if (syncS (appendS D (seg L.name (nextSeg L).toNat) (sld rec)).2 (seg L.name (nextSeg L).toNat)).1 = 0 then
      (0, { L with last := nextSeg L, size := nextAt L + (8 + rec.size), count := L.count + 1 }, (syncS (appendS D (seg L.name (nextSeg L).toNat) (sld rec)).2 (seg L.name (nextSeg L).toNat)).2)
    else ((syncS (appendS D (seg L.name (nextSeg L).toNat) (sld rec)).2 (seg L.name (nextSeg L).toNat)).1, { L with last := nextSeg L, size := nextAt L + (8 + rec.size), broken := true }, (syncS (appendS D (seg L.name (nextSeg L).toNat) (sld rec)).2 (seg L.name (nextSeg L).toNat)).2)
  else ((appendS D (seg L.name (nextSeg L).toNat) (sld rec)).1, { L with broken := (appendS D (seg L.name (nextSeg L).toNat) (sld rec)).2.off }, (appendS D (seg L.name (nextSeg L).toNat) (sld rec)).2)

abbrev LFr (p r q : Nat) (w w' : World) : Prop := Fr (fun b => b = p ∨ b = r ∨ b = q) w w'

theorem DFr.lfr {p r q : Nat} {w w' : World} (h : DFr p r w w') : LFr p r q w w' := h.mono fun i _ h => by rcases h with h | h; exact .inl h; exact .inr (.inl h)

theorem DRep.setq {w : World} {p r q : Nat} {L : LSt} {D : DSt} (h : DRep w p r D) (hl : LogRep w q p L) (j : Nat) (v : Value) : DRep (w.setCell ⟨q, j, none⟩ v) p r D := by
  have hn := hl.ne h
  exact h.move (Below.heap_setCell _ _ _ _ (fun e => hn.1 e.symm)) (Below.heap_setCell _ _ _ _ (fun e => hn.2 e.symm))

set_option maxHeartbeats 4000000 in
set_option maxRecDepth 100000 in
theorem logApp_any {w : World} {q p r n : Nat} {L : LSt} {D : DSt} (rec : ByteArray) (h : LogRep w q p L) (hd : DRep w p r D) (hL : LOk L) (hD : DOk n D) :
    Calls Tryd.prog 11 #[.pointer (some ⟨q, 0, none⟩), .string rec] w fun e w' =>
      e = .returned (.int .i64 (logApp L D rec).1) ∧ LogRep w' q p (logApp L D rec).2.1 ∧ DRep w' p r (logApp L D rec).2.2 ∧ LFr p r q w w' := by
  have hsd := fun w => sealed_any rec w
  have HS := Lib.hid hsd
  have HL := Lib.hid h
  have HD := Lib.hid hd
  have HQ := Lib.hid (h.ne hd)
  clear hsd h hd
  by_cases hbig : 65535 < rec.size
  · rw [show logApp L D rec = (3, L, D) by rw [logApp, if_pos hbig]]
    have he : sealF rec = (⟨#[]⟩, false) := by rw [sealF, if_pos hbig]
    rw [he] at HS
    clear he
    go_enter Tryd.func11, Tryd.ntmps11
    go_wp2_with (go_at_call 27; refine (HS.out _).mono ?_; rintro e w1 ⟨rfl, hb1⟩)
    go_ret
    exact ⟨rfl, HL.out.below hb1, HD.out.below hb1, Fr.of_below hb1⟩
  · have he : sealF rec = (sld rec, true) := by rw [sealF, if_neg hbig]
    rw [he] at HS
    have hsz := sld_size rec
    obtain ⟨sd, hsd⟩ : ∃ sd, sd = sld rec := ⟨_, rfl⟩
    rw [← hsd] at HS hsz
    have HSD := Lib.hid hsd
    clear he hsd
    by_cases hbr : L.broken = true
    · rw [show logApp L D rec = (6, L, D) by rw [logApp, if_neg hbig, if_pos hbr]]
      go_enter Tryd.func11, Tryd.ntmps11
      go_wp2_with (go_at_call 27; refine (HS.out _).mono ?_; rintro e w1 ⟨rfl, hb1⟩; obtain ⟨_, _, _, _, _, c5, _⟩ := box6 (HL.out.below hb1); rw [hbr] at c5)
      go_ret
      exact ⟨rfl, HL.out.below hb1, HD.out.below hb1, Fr.of_below hb1⟩
    · have hbr' : L.broken = false := by simpa using hbr
      obtain ⟨R, hR⟩ : ∃ R, R = logApp L D rec := ⟨_, rfl⟩
      rw [← hR]
      unfold logApp at hR
      rw [if_neg hbig, if_neg hbr, ← HSD.out] at hR
      obtain ⟨hn1, hl1, hs1, hc1⟩ := hL
      have hns : 0 ≤ nextSeg L ∧ nextSeg L ≤ 99 := by unfold nextSeg; split <;> omega
      have hna : 0 ≤ nextAt L ∧ nextAt L ≤ 1000000000 := by unfold nextAt; split <;> omega
      obtain ⟨ls, hls⟩ : ∃ ls : Nat, (ls : Int) = nextSeg L := ⟨(nextSeg L).toNat, by omega⟩
      rw [← hls, Int.toNat_natCast] at hR
      obtain ⟨at', hat⟩ : ∃ a : Int, a = nextAt L := ⟨_, rfl⟩
      rw [← hat] at hR hna
      have hls99 : ls < 100 := by omega
      obtain ⟨sg, hsg⟩ : ∃ sg, sg = seg L.name ls := ⟨_, rfl⟩
      rw [← hsg] at hR
      have HSG := Lib.hid (show ∀ w' : World, ∀ L' : LSt, L'.name = L.name → LogRep w' q p L' → Calls Tryd.prog 25 #[.pointer (some ⟨q, 0, none⟩), .int .i64 ls] w' fun e w'' => e = .returned (.string sg) ∧ Below w'.heap.size w' w'' from fun w' L' hn hl => by
        rw [hsg, ← hn]; exact segment_any ls hls99 hl (by rw [hn]; exact hn1.2))
      have HRR := Lib.hid hR
      have HLS := Lib.hid hls
      have HAT := Lib.hid hat
      clear hR hls hat hsg
      go_enter Tryd.func11, Tryd.ntmps11
      go_wp2_with (go_at_call 27; refine (HS.out _).mono ?_; rintro e w1 ⟨rfl, hb1⟩; obtain ⟨_, _, c2, c3, _, c5, _⟩ := box6 (HL.out.below hb1); rw [hbr'] at c5; have HL1 := Lib.hid (HL.out.below hb1); have HD1 := Lib.hid (HD.out.below hb1); have HB1 := Lib.hid hb1; clear hb1)
      go_quiet (fail)
      obtain ⟨wy, hwy⟩ : ∃ wy, wy = w1.drewN nq := ⟨_, rfl⟩
      have HLY := Lib.hid (show LogRep wy q p L by rw [hwy]; exact HL1.out)
      have HDY := Lib.hid (show DRep wy p r D by rw [hwy]; exact HD1.out.drewN nq)
      have HFY := Lib.hid (show LFr p r q w wy by rw [hwy]; exact (Fr.of_below HB1.out).drewN nq)
      rw [← hwy]
      clear hwy c2 c3 c5
      go_upto_region 9 with fail
      go_cut [37] (fun b wc => b = .bool (decide (L.last < 0 ∨ 4096 ≤ L.size)) ∧ wc = wy)
      case first =>
        by_cases l0 : L.last < 0
        · go_wp2_with fail
          go_meet
          case rel => exact ⟨by rw [decide_eq_true (.inl l0)], rfl⟩
        · by_cases l1 : 4096 ≤ L.size
          · go_wp2_with fail
            go_meet
            case rel => exact ⟨by rw [decide_eq_true (.inr l1)], rfl⟩
          · go_wp2_with fail
            go_meet
            case rel => exact ⟨by rw [decide_eq_false (by rintro (h | h) <;> omega)], rfl⟩
      case rest =>
        obtain ⟨rfl, rfl⟩ := hcut
        go_upto_if 37 with fail
        go_cut [7, 8] (fun lv sv wx => lv = .int .i64 ls ∧ sv = .int .i64 at' ∧ wx = wc)
        case first =>
          by_cases hroll : L.last < 0 ∨ 4096 ≤ L.size
          · have e1 : nextSeg L = L.last + 1 := by rw [nextSeg, if_pos hroll]
            have e2 : nextAt L = 0 := by rw [nextAt, if_pos hroll]
            rw [decide_eq_true hroll]
            go_wp2_with fail
            go_meet
            case rel => exact ⟨by rw [HLS.out, e1], by rw [HAT.out, e2], rfl⟩
          · have e1 : nextSeg L = L.last := by rw [nextSeg, if_neg hroll]
            have e2 : nextAt L = L.size := by rw [nextAt, if_neg hroll]
            rw [decide_eq_false hroll]
            go_wp2_with fail
            go_meet
            case rel => exact ⟨by rw [HLS.out, e1], by rw [HAT.out, e2], rfl⟩
        case rest =>
          obtain ⟨rfl, rfl, rfl⟩ := hcut
          have HAP := Lib.hid (fun (w' : World) (hd' : DRep w' p r D) => append_any sg sd hd' hD.left0 hD.left1 hD.room hD.use)
          obtain ⟨⟨E, D2⟩, hE⟩ : ∃ X, X = appendS D sg sd := ⟨_, rfl⟩
          have hD2 := hD.append sg sd
          have hR := HRR.out
          rw [← hE] at HAP hD2 hR
          simp only at HAP hD2 hR
          have HR := Lib.hid hR
          have HD2 := Lib.hid hD2
          obtain ⟨c0, _, _, _, _, _, _⟩ := box6 HLY.out
          have hbx := (Below.refl wc.heap.size wc).drew
          have hdx : wc.drew.cell? ⟨q, 0, none⟩ = some (.pointer (some ⟨p, 0, none⟩)) := c0
          clear hR hE hD2 HRR
          go_wp2_with fail
          go_region_held3 (fun x' => x'.cell? ⟨q, 0, none⟩ = some (.pointer (some ⟨p, 0, none⟩))) (first | assumption | go_keep)
            (first
              | (go_at_call 25; refine (HSG.out _ L rfl (HLY.out.below hbx)).mono ?_; rintro e w5 ⟨rfl, hb5⟩; have hx5 := hbx.trans (hb5.mono hbx.size); have hs5 := (hx5.cell (World.block_lt_of_cell? _ _ c0)).trans c0)
              | (go_at_call 28; refine (HAP.out _ (HDY.out.below hx5)).mono ?_; rintro e w6 ⟨rfl, hd6, hf6⟩; have HD6 := Lib.hid hd6; have HL6 := Lib.hid ((HLY.out.below hx5).dfr (HDY.out.below hx5) hf6); have HF6 := Lib.hid ((HFY.out.trans (Fr.of_below (S := fun _ => False) hx5) fun _ _ h => h.elim).trans hf6.lfr fun _ _ h => h); obtain ⟨hs6, _⟩ := box6 HL6.out; clear hd6 hf6))
          clear hs6 hdx c0
          obtain ⟨c0, c1, c2, c3, c4, c5, cf⟩ := box6 HL6.out
          have hE0 : (E = 0) ∨ ¬ E = 0 := Classical.em _
          rcases hE0 with rfl | hE0
          · have hR := HR.out
            rw [if_pos rfl] at hR
            have HR' := Lib.hid hR
            have hwr : IntKind.i64.wrap (at' + (8 + (rec.size : Int))) = at' + (8 + (rec.size : Int)) := IntWalk.i64_in _ (by omega)
            have cf2 := cf 2
            have cf3 := cf 3
            clear HR hR cf c0 c1 c4 c5
            go_upto_region 16 with fail
            obtain ⟨wz, hwz⟩ : ∃ wz, wz = (w6.setCell ⟨q, 2, none⟩ (.int .i64 ls)).setCell ⟨q, 3, none⟩ (.int .i64 (at' + (8 + (rec.size : Int)))) := ⟨_, rfl⟩
            have hlz : LogRep wz q p { L with last := ls, size := at' + (8 + (rec.size : Int)) } := by
              rw [hwz]
              exact LogRep.set (L := { L with last := ls }) (HL6.out.set 2 _ rfl) 3 _ rfl
            have HLZ := Lib.hid hlz
            have HDZ := Lib.hid (show DRep wz p r D2 by rw [hwz]; exact (HD6.out.setq HL6.out 2 _).setq (L := { L with last := ls }) (HL6.out.set 2 _ rfl) 3 _)
            have HFZ := Lib.hid (show LFr p r q w wz by rw [hwz]; exact (HF6.out.setCell (p := ⟨q, 2, none⟩) (.inr (.inr (.inr rfl))) _).setCell (p := ⟨q, 3, none⟩) (.inr (.inr (.inr rfl))) _)
            rw [← hwz]
            clear hwz hlz
            have HSY := Lib.hid (fun (w' : World) (hd' : DRep w' p r D2) => sync_any sg hd' HD2.out.left0 HD2.out.left1)
            obtain ⟨⟨Y, D3⟩, hY⟩ : ∃ X, X = syncS D2 sg := ⟨_, rfl⟩
            have hR := HR'.out
            rw [← hY] at HSY hR
            simp only at HSY hR
            have HR := Lib.hid hR
            clear hR hY HR'
            obtain ⟨c0, _, _, _, _, _, _⟩ := box6 HLZ.out
            have hbx := (Below.refl wz.heap.size wz).drew
            have hdx : wz.drew.cell? ⟨q, 0, none⟩ = some (.pointer (some ⟨p, 0, none⟩)) := c0
            go_region_held3 (fun x' => x'.cell? ⟨q, 0, none⟩ = some (.pointer (some ⟨p, 0, none⟩))) (first | assumption | go_keep)
              (first
                | (go_at_call 25; refine (HSG.out _ { L with last := ls, size := at' + (8 + (rec.size : Int)) } rfl (HLZ.out.below hbx)).mono ?_; rintro e w7 ⟨rfl, hb7⟩; have hx7 := hbx.trans (hb7.mono hbx.size); have hs7 := (hx7.cell (World.block_lt_of_cell? _ _ c0)).trans c0)
                | (go_at_call 30; refine (HSY.out _ (HDZ.out.below hx7)).mono ?_; rintro e w8 ⟨rfl, hd8, hf8⟩; have HD8 := Lib.hid hd8; have HL8 := Lib.hid ((HLZ.out.below hx7).dfr (HDZ.out.below hx7) hf8); have HF8 := Lib.hid ((HFZ.out.trans (Fr.of_below (S := fun _ => False) hx7) fun _ _ h => h.elim).trans hf8.lfr fun _ _ h => h); obtain ⟨hs8, _⟩ := box6 HL8.out; clear hd8 hf8))
            clear hs8 hdx c0
            obtain ⟨c0, c1, c2, c3, c4, c5, cf⟩ := box6 HL8.out
            have cf4 := cf 4
            have cf5 := cf 5
            clear cf
            have hY0 : (Y = 0) ∨ ¬ Y = 0 := Classical.em _
            rcases hY0 with rfl | hY0
            · have hR := HR.out
              rw [if_pos rfl] at hR
              subst hR
              have hwr2 : IntKind.i64.wrap (L.count + 1) = L.count + 1 := IntWalk.i64_in _ (by omega)
              clear HR
              go_wp2_with fail
              go_ret
              have hfin := HL8.out.set (L' := { L with last := ls, size := at' + (8 + (rec.size : Int)), count := L.count + 1 }) 4 (.int .i64 (L.count + 1)) rfl
              rw [hbr'] at hfin
              exact ⟨rfl, hfin, HD8.out.setq HL8.out 4 _, HF8.out.setCell (p := ⟨q, 4, none⟩) (.inr (.inr (.inr rfl))) _⟩
            · have hR := HR.out
              rw [if_neg hY0] at hR
              subst hR
              clear HR
              go_wp2_with fail
              go_ret
              exact ⟨rfl, HL8.out.set (L' := { L with last := ls, size := at' + (8 + (rec.size : Int)), broken := true }) 5 (.bool true) rfl, HD8.out.setq HL8.out 5 _, HF8.out.setCell (p := ⟨q, 5, none⟩) (.inr (.inr (.inr rfl))) _⟩
          · have hR := HR.out
            rw [if_neg hE0] at hR
            subst hR
            have cf5 := cf 5
            clear HR cf
            go_wp2_with (go_at_call 29; refine (on_any HD6.out).mono ?_; rintro e w7 ⟨rfl, hb7⟩; obtain ⟨_, _, _, _, _, e5, ef⟩ := box6 (HL6.out.below hb7); have ef5 := ef 5; have HL7 := Lib.hid (HL6.out.below hb7); have HD7 := Lib.hid (HD6.out.below hb7); have HF7 := Lib.hid (HF6.out.trans (Fr.of_below (S := fun _ => False) hb7) fun _ _ h => h.elim); clear hb7 ef)
            go_ret
            exact ⟨rfl, HL7.out.set (L' := { L with broken := D2.off }) 5 _ (by simp [lcells]), HD7.out.setq HL7.out 5 _, HF7.out.setCell (p := ⟨q, 5, none⟩) (.inr (.inr (.inr rfl))) _⟩

end Go.Proofs.YtdogmcpmlglkfaaDoor

namespace Go.Proofs.YtdogmcpmlglkfaaDoor
open Go.RowKit Go.Proofs.YtdogmcpmlglkfaaDoorW.PrintWords

/-- The records recs are read off data's beginning, up to a. -/
inductive Run (data : ByteArray) : List ByteArray → Nat → Prop
  | start : Run data [] 0
  | step {recs : List ByteArray} {a m : Nat} {r : ByteArray} : Run data recs a → a < data.size → openF (data.extract a data.size) = (r, (m : Int), true) → Run data (recs ++ [r]) (a + m)

def Stop (data : ByteArray) (a : Nat) : Prop := data.size ≤ a ∨ (openF (data.extract a data.size)).2.2 = false

theorem openF_ok {s r : ByteArray} {m : Int} (h : openF s = (r, m, true)) : m = 8 + (r.size : Int) ∧ r.size + 8 ≤ s.size := by
  unfold openF at h
  obtain ⟨⟨a1, a2, a3⟩, hdA⟩ : ∃ X, X = tk s false 4 := ⟨_, rfl⟩
  simp only [← hdA] at h
  obtain ⟨⟨b1, b2, b3⟩, hdB⟩ : ∃ X, X = tk a2 a3 4 := ⟨_, rfl⟩
  simp only [← hdB] at h
  obtain ⟨⟨c1, c2, c3⟩, hdC⟩ : ∃ X, X = tk b2 b3 (num a1) := ⟨_, rfl⟩
  simp only [← hdC] at h
  split at h
  · cases h
  · split at h
    · cases h
    · rename_i hc3
      split at h
      · simp only [Prod.mk.injEq] at h
        obtain ⟨rfl, rfl, _⟩ := h
        have hc : ¬ (b3 = true ∨ num a1 < 0 ∨ (b2.size : Int) < num a1) := fun hb => by
          rw [tk, if_pos hb] at hdC
          simp only [Prod.mk.injEq] at hdC
          exact hc3 hdC.2.2
        rw [tk, if_neg hc] at hdC
        simp only [Prod.mk.injEq] at hdC
        have hb : ¬ (a3 = true ∨ (4 : Int) < 0 ∨ (a2.size : Int) < 4) := fun hb => by
          rw [tk, if_pos hb] at hdB
          simp only [Prod.mk.injEq] at hdB
          exact hc (.inl hdB.2.2)
        rw [tk, if_neg hb] at hdB
        simp only [Prod.mk.injEq] at hdB
        have ha : ¬ (false = true ∨ (4 : Int) < 0 ∨ (s.size : Int) < 4) := fun ha => by
          rw [tk, if_pos ha] at hdA
          simp only [Prod.mk.injEq] at hdA
          exact hb (.inl hdA.2.2)
        rw [tk, if_neg ha] at hdA
        simp only [Prod.mk.injEq] at hdA
        have s1 : a2.size = s.size - 4 := by rw [hdA.2.1, ByteArray.size_extract]; have : (4 : Int).toNat = 4 := rfl; omega
        have s2 : b2.size = a2.size - 4 := by rw [hdB.2.1, ByteArray.size_extract]; have : (4 : Int).toNat = 4 := rfl; omega
        have s3 : c1.size = (num a1).toNat := by rw [hdC.1, ByteArray.size_extract]; omega
        omega
      · cases h

theorem openF_bad {s : ByteArray} (h : (openF s).2.2 = false) : (openF s).1 = ⟨#[]⟩ ∧ (openF s).2.1 = 0 := by
  unfold openF at h ⊢
  split
  · exact ⟨rfl, rfl⟩
  · rename_i h1
    rw [if_neg h1] at h
    split
    · exact ⟨rfl, rfl⟩
    · rename_i h2
      rw [if_neg h2] at h
      split
      · rename_i h3
        rw [if_pos h3] at h
        cases h
      · exact ⟨rfl, rfl⟩

theorem Run.le {data : ByteArray} {recs : List ByteArray} {a : Nat} (h : Run data recs a) : a ≤ data.size ∧ recs.length * 8 ≤ a := by
  induction h with
  | start => exact ⟨Nat.zero_le _, Nat.le_refl _⟩
  | step h1 h2 h3 ih =>
    obtain ⟨e1, e2⟩ := openF_ok h3
    rw [ByteArray.size_extract] at e2
    refine ⟨by omega, ?_⟩
    rw [List.length_append]
    simp only [List.length_cons, List.length_nil]
    omega

theorem LogRep.own_ne {w : World} {q p B n : Nat} {L : LSt} {v : Value} {xs : List Value} (h : LogRep w q p L) (ho : w.ownsRow B 9 1 v n xs) : some q ≠ v.ownBlock := fun e => by
  obtain ⟨c, hc⟩ := own_kind ho e.symm
  rw [h] at hc
  simp only [Option.some.injEq, Obj.cells.injEq] at hc
  exact absurd hc.2.1 (by decide)

theorem DRep.belowB {w w' : World} {B p r : Nat} {s : DSt} (h : DRep w p r s) (hb : Below B w w') (hp : p < B) (hr : r < B) : DRep w' p r s := h.move (hb.block p hp) (hb.block r hr)

abbrev BFr (B p r : Nat) (w w' : World) : Prop := Fr (fun b => b = p ∨ b = r ∨ B ≤ b) w w'

theorem info_str : (Tryd.prog.info? 9).map (fun i => (i.zero, i.size, i.bytes)) = some (some (.string ⟨#[]⟩), 1, 16) := by kernel_rfl
theorem own_none (w : World) (base : Nat) (e : TypeId) (size : Nat) : w.ownsRow base e size (.slice none 0 0) 0 [] := ⟨by simp, .inl ⟨rfl, rfl⟩⟩
theorem one_str (w : World) (v : ByteArray) (t : TypeId) : Kd.C Kd.string (w.alloc (.cells #[.string v] t)) (some ⟨w.heap.size, 0, none⟩) 1 [v] :=
  strs_read (c := [.string v]) (heap_alloc_new _ _) rfl (by simp)

set_option maxHeartbeats 4000000 in
set_option maxRecDepth 100000 in
theorem logRead_err {w : World} {q p r n : Nat} {L : LSt} {D : DSt} {A : Option Addr} {k c : Nat} (h : LogRep w q p L) (hd : DRep w p r D) (hL : 1 ≤ L.name.size ∧ L.name.size ≤ 28) (hn : n < 100) (he : (readS D (seg L.name n)).2 ≠ 0) :
    Calls Tryd.prog 26 #[.pointer (some ⟨q, 0, none⟩), .int .i64 n, .slice A k c] w fun e w' =>
      e = .returned (.tuple #[.slice A k c, .bool false, .int .i64 (readS D (seg L.name n)).2]) ∧ Below w.heap.size w w' := by
  have HSG := Lib.hid (show ∀ w' : World, LogRep w' q p L → Calls Tryd.prog 25 #[.pointer (some ⟨q, 0, none⟩), .int .i64 n] w' fun e w'' => e = .returned (.string (seg L.name n)) ∧ Below w'.heap.size w' w'' from fun w' hl => segment_any n hn hl hL.2)
  have HRD := Lib.hid (fun (w' : World) (hd' : DRep w' p r D) => read_any (seg L.name n) hd')
  obtain ⟨sg, hsg⟩ : ∃ sg, sg = seg L.name n := ⟨_, rfl⟩
  simp only [← hsg] at HSG HRD he ⊢
  obtain ⟨⟨dat, E⟩, hE⟩ : ∃ X, X = readS D sg := ⟨_, rfl⟩
  simp only [← hE] at HRD he ⊢
  have HL := Lib.hid h
  have HD := Lib.hid hd
  obtain ⟨c0, _, _, _, _, _, _⟩ := box6 h
  have hbx := (Below.refl w.heap.size w).drew
  have hdx : w.drew.cell? ⟨q, 0, none⟩ = some (.pointer (some ⟨p, 0, none⟩)) := c0
  clear hsg hE h hd
  go_enter Tryd.func26, Tryd.ntmps26
  go_wp2_with fail
  go_region_held3 (fun x' => x'.cell? ⟨q, 0, none⟩ = some (.pointer (some ⟨p, 0, none⟩))) (first | assumption | go_keep)
    (first
      | (go_at_call 25; refine (HSG.out _ (HL.out.below hbx)).mono ?_; rintro e w5 ⟨rfl, hb5⟩; have hx5 := hbx.trans (hb5.mono hbx.size); have hs5 := (hx5.cell (World.block_lt_of_cell? _ _ c0)).trans c0)
      | (go_at_call 46; refine (HRD.out _ (HD.out.below hx5)).mono ?_; rintro e w6 ⟨rfl, hb6⟩; have hx6 := hx5.trans (hb6.mono hx5.size); have hs6 := (hx6.cell (World.block_lt_of_cell? _ _ c0)).trans c0))
  go_wp2_with fail
  go_ret3
  exact ⟨rfl, hx6⟩

theorem readS_size {D : DSt} {n : Nat} {nm dat : ByteArray} (h : DOk n D) (he : readS D nm = (dat, 0)) : dat.size ≤ 4194304 := by
  unfold readS at he
  split at he
  · cases he
  · split at he
    · cases he
    · rename_i f hf
      simp only [Prod.mk.injEq] at he
      obtain ⟨rfl, _⟩ := he
      have h1 := used_mem (dget_mem hf)
      have h2 := h.use
      have h3 := h.room
      omega

set_option maxHeartbeats 4000000 in
set_option maxRecDepth 100000 in
theorem logRead_ok {w : World} {q p r n m B : Nat} {L : LSt} {D : DSt} {v : Value} {all : List ByteArray} {dat : ByteArray} (h : LogRep w q p L) (hd : DRep w p r D) (hL : 1 ≤ L.name.size ∧ L.name.size ≤ 28) (hn : n < 100) (hpB : p < B) (hrB : r < B) (hqB : B ≤ q) (hD : DOk m D)
    (he : readS D (seg L.name n) = (dat, 0)) (hown : w.ownsRow B 9 1 v all.length (all.map Value.string)) (hall : all.length ≤ 400000) :
    Calls Tryd.prog 26 #[.pointer (some ⟨q, 0, none⟩), .int .i64 n, v] w fun e w' => ∃ (v' : Value) (recs : List ByteArray) (a : Nat), Run dat recs a ∧ Stop dat a ∧
      w'.ownsRow B 9 1 v' (all ++ recs).length ((all ++ recs).map Value.string) ∧ LogRep w' q p { L with last := n, size := a } ∧
      ((a = dat.size ∧ e = .returned (.tuple #[v', .bool false, .int .i64 0]) ∧ DRep w' p r D ∧ Below B w w') ∨
       (a < dat.size ∧ e = .returned (.tuple #[v', .bool true, .int .i64 (cutS D (seg L.name n) a).1]) ∧ DRep w' p r (cutS D (seg L.name n) a).2 ∧ BFr B p r w w')) := by
  have hdz := readS_size hD he
  have HSG := Lib.hid (show ∀ (w' : World) (L' : LSt), L'.name = L.name → LogRep w' q p L' → Calls Tryd.prog 25 #[.pointer (some ⟨q, 0, none⟩), .int .i64 n] w' fun e w'' => e = .returned (.string (seg L.name n)) ∧ Below w'.heap.size w' w'' from fun w' L' hl' hl => by
    rw [← hl']; exact segment_any n hn hl (by rw [hl']; exact hL.2))
  have HRD := Lib.hid (fun (w' : World) (hd' : DRep w' p r D) => read_any (seg L.name n) hd')
  obtain ⟨sg, hsg⟩ : ∃ sg, sg = seg L.name n := ⟨_, rfl⟩
  simp only [← hsg] at HSG HRD he ⊢
  simp only [he] at HRD
  have HCT := Lib.hid (fun (w' : World) (a : Nat) (hd' : DRep w' p r D) => cut_any sg (a : Int) hd' hD.left0 hD.left1)
  have HL := Lib.hid h
  have HD := Lib.hid hd
  have hBw : B ≤ w.heap.size := Nat.le_trans hqB (Nat.le_of_lt h.lt)
  obtain ⟨c0, _, _, _, _, _, _⟩ := box6 h
  have hbx := (Below.refl w.heap.size w).drew
  have hdx : w.drew.cell? ⟨q, 0, none⟩ = some (.pointer (some ⟨p, 0, none⟩)) := c0
  obtain ⟨A, c, rfl, hac⟩ := own_slice hown
  have HOWN := Lib.hid hown
  clear hsg he h hd hown
  go_enter Tryd.func26, Tryd.ntmps26
  go_wp2_with fail
  go_region_held3 (fun x' => x'.cell? ⟨q, 0, none⟩ = some (.pointer (some ⟨p, 0, none⟩))) (first | assumption | go_keep)
    (first
      | (go_at_call 25; refine (HSG.out _ L rfl (HL.out.below hbx)).mono ?_; rintro e w5 ⟨rfl, hb5⟩; have hx5 := hbx.trans (hb5.mono hbx.size); have hs5 := (hx5.cell (World.block_lt_of_cell? _ _ c0)).trans c0)
      | (go_at_call 46; refine (HRD.out _ (HD.out.below hx5)).mono ?_; rintro e w6 ⟨rfl, hb6⟩; have hx6 := hx5.trans (hb6.mono hx5.size); have hs6 := (hx6.cell (World.block_lt_of_cell? _ _ c0)).trans c0))
  have HX6 := Lib.hid hx6
  clear hb5 hx5 hs5 hb6 hs6 hbx hdx c0
  go_wp2_with fail
  go_loopw [2, 11, 12, 13, 14] (fun vv av _ _ _ wr => ∃ (recs : List ByteArray) (a : Nat), av = .int .i64 a ∧ Run dat recs a ∧ wr.ownsRow B 9 1 vv (all ++ recs).length ((all ++ recs).map Value.string) ∧ LogRep wr q p L ∧ DRep wr p r D ∧ Below B w wr) (fun _ av _ _ _ _ => dat.size - (intOf av).toNat)
  case atStart => exact ⟨[], 0, rfl, .start, by rw [List.append_nil]; exact own_below HOWN.out HX6.out, HL.out.below HX6.out, HD.out.below HX6.out, HX6.out.mono hBw⟩
  case round =>
    obtain ⟨recs, a, rfl, hrun, hor, hlr, hdr, hbr⟩ := hrel
    have HRUN := Lib.hid hrun
    have HLR := Lib.hid hlr
    have HDR := Lib.hid hdr
    have HBR := Lib.hid hbr
    have hle := hrun.le
    obtain ⟨X, hX⟩ : ∃ X, X = all ++ recs := ⟨_, rfl⟩
    rw [← hX] at hor
    have hXl : X.length ≤ 400000 + recs.length := by rw [hX, List.length_append]; omega
    have HX := Lib.hid hX
    obtain ⟨A', c', rfl, hac'⟩ := own_slice hor
    have HOR := Lib.hid hor
    obtain ⟨_, _, c2, c3, _, _, cf⟩ := box6 hlr
    have cf2 := cf 2
    have cf3 := cf 3
    have hq2 := hlr.lt
    have hBr : B ≤ wr.heap.size := Nat.le_trans hqB (Nat.le_of_lt hq2)
    clear hrun hlr hdr hbr hor cf HX6 hX
    by_cases hlt : a < dat.size
    · have hOP := fun w' => open_any (dat.extract a dat.size) w' (by rw [ByteArray.size_extract]; omega)
      have hbd := openF_bad (s := dat.extract a dat.size)
      obtain ⟨⟨rc, sz, ok⟩, ho⟩ : ∃ X, X = openF (dat.extract a dat.size) := ⟨_, rfl⟩
      simp only [← ho] at hOP hbd
      have HOP := Lib.hid hOP
      have HO := Lib.hid ho
      have hp0 : (0 : Int) ≤ (a : Int) := by omega
      have hp1 : (a : Int) ≤ (dat.size : Int) := by omega
      clear hOP
      cases ok with
      | true =>
        obtain ⟨e1, e2⟩ := openF_ok ho.symm
        rw [ByteArray.size_extract] at e2
        obtain ⟨mm, hmm⟩ : ∃ mm : Nat, sz = (mm : Int) := ⟨(8 + rc.size), by rw [e1]; omega⟩
        subst hmm
        have hst := Run.step HRUN.out hlt ho.symm
        have hmm2 : mm = 8 + rc.size := by omega
        have HST := Lib.hid hst
        have hsum : IntKind.i64.wrap ((a : Int) + (mm : Int)) = (a : Int) + (mm : Int) := IntWalk.i64_in _ (by omega)
        obtain ⟨i0, hii0, hz0, hz1, hz2⟩ := info_parts info_str
        clear ho hst hbd
        go_wp2_with (first
          | (go_at_call 47; refine (HOP.out _).mono ?_; rintro e w7 ⟨rfl, hb7⟩; have HO7 := Lib.hid (own_below HOR.out hb7); have HL7 := Lib.hid (HLR.out.below hb7); have HB7 := Lib.hid (HBR.out.trans (hb7.mono hBr)); have hz7 := hb7.size; clear hb7)
          | (at_builtin; refine wpList_append_strs _ rfl (.tmp 44) (.tmp 46) 22 rfl B 9 i0 Tryd.underlying22 hii0 hz0 hz1 hz2 _ X [rc] rfl (HO7.out.alloc _) (some ⟨w7.heap.size, 0, none⟩) 1 rfl (one_str _ _ _) (by simp only [List.length_cons, List.length_nil]; omega) (by rw [asz]; omega) ?_; intro v' w8 hown8 hg8 hat8))
        have hlt7 := HL7.out.lt
        have hB8 : Below B w w8 := (HB7.out.alloc (by have := HB7.out.size; omega) _).grown hg8 (by rw [asz]; omega) (fun b hb => (HO7.out.lt b hb).1)
        refine ⟨⟨recs ++ [rc], a + mm, by go_num, HST.out, by rw [← List.append_assoc, ← HX.out]; exact hown8, ?_, ?_, hB8⟩, by simp [intOf]; omega⟩
        · exact (hg8.block q (by rw [asz]; omega) (HL7.out.own_ne HO7.out)).trans ((Below.heap_alloc _ _ _ hlt7).trans HL7.out)
        · exact DRep.belowB HD.out hB8 hpB hrB
      | false =>
        obtain ⟨rfl, rfl⟩ := hbd rfl
        clear ho
        have hstop : Stop dat a := .inr (by rw [← HO.out])
        have HSTOP := Lib.hid hstop
        have hae2 : ((a : Int) == (dat.size : Int)) = false := by rw [beq_eq_false_iff_ne]; omega
        clear hstop hbd
        go_upto_region 10 with (go_at_call 47; refine (HOP.out _).mono ?_; rintro e w7 ⟨rfl, hb7⟩; have HO7 := Lib.hid (own_below HOR.out hb7); have HL7 := Lib.hid (HLR.out.below hb7); have HD7 := Lib.hid (HDR.out.below hb7); have HB7 := Lib.hid (HBR.out.trans (hb7.mono hBr)); clear hb7)
        obtain ⟨_, _, c2, c3, _, _, cf⟩ := box6 HL7.out
        have cf2 := cf 2
        have cf3 := cf 3
        clear cf
        go_upto_region 11 with fail
        obtain ⟨wz, hwz⟩ : ∃ wz, wz = (w7.setCell ⟨q, 2, none⟩ (.int .i64 n)).setCell ⟨q, 3, none⟩ (.int .i64 a) := ⟨_, rfl⟩
        have hlz : LogRep wz q p { L with last := n, size := a } := by
          rw [hwz]
          exact LogRep.set (L := { L with last := n }) (HL7.out.set 2 _ rfl) 3 _ rfl
        have HLZ := Lib.hid hlz
        have HDZ := Lib.hid (show DRep wz p r D by rw [hwz]; exact (HD7.out.setq HL7.out 2 _).setq (L := { L with last := n }) (HL7.out.set 2 _ rfl) 3 _)
        have HBZ := Lib.hid (show Below B w wz by rw [hwz]; exact (HB7.out.setCell (p := ⟨q, 2, none⟩) hqB _).setCell (p := ⟨q, 3, none⟩) hqB _)
        have HOZ := Lib.hid (show wz.ownsRow B 9 1 (.slice A' X.length c') X.length (X.map Value.string) by rw [hwz]; exact own_setCell (own_setCell HO7.out (HL7.out.own_ne HO7.out) _) (HL7.out.own_ne HO7.out) _)
        rw [← hwz]
        clear hwz hlz c2 c3
        go_upto_region 13 with fail
        obtain ⟨c0, _, _, _, _, _, _⟩ := box6 HLZ.out
        have hbx := (Below.refl wz.heap.size wz).drew
        have hdx : wz.drew.cell? ⟨q, 0, none⟩ = some (.pointer (some ⟨p, 0, none⟩)) := c0
        go_region_held3 (fun x' => x'.cell? ⟨q, 0, none⟩ = some (.pointer (some ⟨p, 0, none⟩))) (first | assumption | go_keep)
          (first
            | (go_at_call 25; refine (HSG.out _ { L with last := n, size := a } rfl (HLZ.out.below hbx)).mono ?_; rintro e w8 ⟨rfl, hb8⟩; have hx8 := hbx.trans (hb8.mono hbx.size); have hs8 := (hx8.cell (World.block_lt_of_cell? _ _ c0)).trans c0)
            | (go_at_call 24; refine (HCT.out _ a (HDZ.out.below hx8)).mono ?_; rintro e w9 ⟨rfl, hd9, hf9⟩; have HD9 := Lib.hid hd9; have HX8 := Lib.hid hx8; have HF9 := Lib.hid hf9; have HL9 := Lib.hid ((HLZ.out.below hx8).dfr (HDZ.out.below hx8) hf9); obtain ⟨hs9, _⟩ := box6 HL9.out; clear hd9 hf9))
        clear hs9 hdx c0
        go_wp2_with fail
        go_ret3
        have hbx8 : Below B wz w8 := HX8.out.mono (by have := HBZ.out.size; omega)
        refine ⟨_, recs, a, HRUN.out, HSTOP.out, ?_, HL9.out, .inr ⟨hlt, rfl, HD9.out, ?_⟩⟩
        · rw [← HX.out]
          have ho8 := own_below HOZ.out HX8.out
          exact ownsRow_move ho8 fun b hk => HF9.out.block b (ho8.lt b hk).2 (by have := (ho8.lt b hk).1; rintro (e | e) <;> omega)
        · have hb8 := HBZ.out.trans hbx8
          have hf9 := HF9.out
          have hs8 := hb8.size
          exact ⟨hf9.os.trans hb8.os, hf9.tape.trans hb8.tape, hf9.output.trans hb8.output, Nat.le_trans hs8 hf9.size, fun k hk hn =>
            (hf9.block k (by omega) (fun h => hn (by rcases h with h | h; exact .inl h; exact .inr (.inl h)))).trans (hb8.block k (by omega))⟩
    · have hae : a = dat.size := by omega
      have hstop : Stop dat a := .inl (by omega)
      have HSTOP := Lib.hid hstop
      have HAE := Lib.hid hae
      have hae2 : ((a : Int) == (dat.size : Int)) = true := by rw [hae]; simp
      clear hstop hae
      go_upto_region 11 with fail
      obtain ⟨wz, hwz⟩ : ∃ wz, wz = (wr.setCell ⟨q, 2, none⟩ (.int .i64 n)).setCell ⟨q, 3, none⟩ (.int .i64 a) := ⟨_, rfl⟩
      have hlz : LogRep wz q p { L with last := n, size := a } := by
        rw [hwz]
        exact LogRep.set (L := { L with last := n }) (HLR.out.set 2 _ rfl) 3 _ rfl
      have HLZ := Lib.hid hlz
      have HDZ := Lib.hid (show DRep wz p r D by rw [hwz]; exact (HDR.out.setq HLR.out 2 _).setq (L := { L with last := n }) (HLR.out.set 2 _ rfl) 3 _)
      have HBZ := Lib.hid (show Below B w wz by rw [hwz]; exact (HBR.out.setCell (p := ⟨q, 2, none⟩) hqB _).setCell (p := ⟨q, 3, none⟩) hqB _)
      have HOZ := Lib.hid (show wz.ownsRow B 9 1 (.slice A' X.length c') X.length (X.map Value.string) by rw [hwz]; exact own_setCell (own_setCell HOR.out (HLR.out.own_ne HOR.out) _) (HLR.out.own_ne HOR.out) _)
      rw [← hwz]
      clear hwz hlz c2 c3
      go_wp2_with fail
      go_ret3
      exact ⟨_, recs, a, HRUN.out, HSTOP.out, by rw [← HX.out]; exact HOZ.out, HLZ.out, .inl ⟨HAE.out, rfl, HDZ.out, HBZ.out⟩⟩

end Go.Proofs.YtdogmcpmlglkfaaDoor

namespace Go.Proofs.YtdogmcpmlglkfaaDoor
open Go.RowKit Go.Proofs.YtdogmcpmlglkfaaDoorW.PrintWords

/-- What log.Open has come to ahead of round n: the disk, the log, the records; whether something was torn. -/
inductive Opening (D0 : DSt) (nm : ByteArray) : Nat → DSt → LSt → List ByteArray → Bool → Prop
  | start : Opening D0 nm 0 D0 ⟨nm, -1, 0, 0, false⟩ [] false
  | whole {n : Nat} {D : DSt} {L : LSt} {all recs : List ByteArray} {dat : ByteArray} : Opening D0 nm n D L all false → readS D (seg nm n) = (dat, 0) → Run dat recs dat.size →
      Opening D0 nm (n + 1) D { L with last := n, size := dat.size } (all ++ recs) false
  | torn {n a : Nat} {D : DSt} {L : LSt} {all recs : List ByteArray} {dat : ByteArray} : Opening D0 nm n D L all false → readS D (seg nm n) = (dat, 0) → Run dat recs a → Stop dat a → a < dat.size → (cutS D (seg nm n) a).1 = 0 →
      Opening D0 nm (n + 1) (cutS D (seg nm n) a).2 { L with last := n, size := a } (all ++ recs) true
  | tear {n : Nat} {D : DSt} {L : LSt} {all : List ByteArray} : Opening D0 nm n D L all true → (cutS D (seg nm n) 0).1 = 0 →
      Opening D0 nm (n + 1) (cutS D (seg nm n) 0).2 { L with last := n, size := 0 } all true

/-- How log.Open ends. -/
inductive OpenEnd (D0 : DSt) (nm : ByteArray) : Int → DSt → LSt → List ByteArray → Prop
  | none {n : Nat} {D : DSt} {L : LSt} {all : List ByteArray} : Opening D0 nm n D L all false → (readS D (seg nm n)).2 ≠ 0 → OpenEnd D0 nm (readS D (seg nm n)).2 D L all
  | torn {n a : Nat} {D : DSt} {L : LSt} {all recs : List ByteArray} {dat : ByteArray} : Opening D0 nm n D L all false → readS D (seg nm n) = (dat, 0) → Run dat recs a → Stop dat a → a < dat.size → (cutS D (seg nm n) a).1 ≠ 0 →
      OpenEnd D0 nm (cutS D (seg nm n) a).1 (cutS D (seg nm n) a).2 { L with last := n, size := a } (all ++ recs)
  | tear {n : Nat} {D : DSt} {L : LSt} {all : List ByteArray} : Opening D0 nm n D L all true → (cutS D (seg nm n) 0).1 ≠ 0 → OpenEnd D0 nm (cutS D (seg nm n) 0).1 (cutS D (seg nm n) 0).2 L all

theorem Opening.ok {D0 D : DSt} {nm : ByteArray} {n m : Nat} {L : LSt} {all : List ByteArray} {t : Bool} (h : Opening D0 nm n D L all t) (h0 : DOk m D0) : L.name = nm ∧ ∃ k, DOk k D := by
  induction h with
  | start => exact ⟨rfl, m, h0⟩
  | whole _ _ _ ih => exact ih
  | torn _ _ _ _ _ _ ih => exact ⟨ih.1, ih.2.choose + 1, ih.2.choose_spec.cut _ _⟩
  | tear _ _ ih => exact ⟨ih.1, ih.2.choose + 1, ih.2.choose_spec.cut _ _⟩

theorem bfr_of {B p r : Nat} {w w' : World} (h : Below B w w') : BFr B p r w w' := ⟨h.os, h.tape, h.output, h.size, fun k _ hn => h.block k (by omega)⟩

theorem LogRep.move {w w' : World} {q p : Nat} {L : LSt} (h : LogRep w q p L) (hq : w'.heap[q]? = w.heap[q]?) : LogRep w' q p L := hq.trans h

/-- What log.Open answers, and leaves. -/
def OpenPost (B p r : Nat) (w : World) (D0 : DSt) (nm : ByteArray) (e : Ending) (w' : World) : Prop := ∃ (x : Int) (D : DSt) (L : LSt) (all : List ByteArray), OpenEnd D0 nm x D L all ∧ DRep w' p r D ∧ BFr B p r w w' ∧
  ((x = 10 ∧ ∃ (q : Nat) (v : Value), B ≤ q ∧ e = .returned (.tuple #[.pointer (some ⟨q, 0, none⟩), v, .int .i64 0]) ∧ LogRep w' q p { L with count := all.length } ∧ w'.ownsRow B 9 1 v all.length (all.map Value.string)) ∨
   (x ≠ 10 ∧ e = .returned (.tuple #[.pointer none, .slice none 0 0, .int .i64 x])))

/-- What a read of a segment leaves. -/
def ReadPost (B q p r n : Nat) (nm : ByteArray) (L : LSt) (D : DSt) (all : List ByteArray) (dat : ByteArray) (w : World) (v' : Value) (t : Bool) (x : Int) (w' : World) : Prop := ∃ (recs : List ByteArray) (a : Nat), Run dat recs a ∧ Stop dat a ∧
  w'.ownsRow B 9 1 v' (all ++ recs).length ((all ++ recs).map Value.string) ∧ LogRep w' q p { L with last := n, size := a } ∧
  ((a = dat.size ∧ t = false ∧ x = 0 ∧ DRep w' p r D ∧ Below B w w') ∨
   (a < dat.size ∧ t = true ∧ x = (cutS D (seg nm n) a).1 ∧ DRep w' p r (cutS D (seg nm n) a).2 ∧ BFr B p r w w'))

theorem logRead_ok2 {w : World} {q p r n m B : Nat} {L : LSt} {D : DSt} {nm : ByteArray} {v : Value} {all : List ByteArray} {dat : ByteArray} (hnm : L.name = nm) (h : LogRep w q p L) (hd : DRep w p r D) (hL : 1 ≤ L.name.size ∧ L.name.size ≤ 28) (hn : n < 100) (hpB : p < B) (hrB : r < B) (hqB : B ≤ q) (hD : DOk m D)
    (he : readS D (seg L.name n) = (dat, 0)) (hown : w.ownsRow B 9 1 v all.length (all.map Value.string)) (hall : all.length ≤ 400000) :
    Calls Tryd.prog 26 #[.pointer (some ⟨q, 0, none⟩), .int .i64 n, v] w fun e w' => ∃ (v' : Value) (t : Bool) (x : Int), e = .returned (.tuple #[v', .bool t, .int .i64 x]) ∧ ReadPost B q p r n nm L D all dat w v' t x w' := by
  refine (logRead_ok h hd hL hn hpB hrB hqB hD he hown hall).mono ?_
  rintro e w' ⟨v', recs, a, h1, h2, h3, h4, h5⟩
  rw [hnm] at h5
  rcases h5 with ⟨ha, rfl, hb, hc⟩ | ⟨ha, rfl, hb, hc⟩
  · exact ⟨v', false, 0, rfl, recs, a, h1, h2, h3, h4, .inl ⟨ha, rfl, rfl, hb, hc⟩⟩
  · exact ⟨v', true, _, rfl, recs, a, h1, h2, h3, h4, .inr ⟨ha, rfl, rfl, hb, hc⟩⟩

theorem own_dfr2 {w w' : World} {B p r : Nat} {e : TypeId} {size n : Nat} {v : Value} {xs : List Value} (hp : p < B) (hr : r < B) (h : w.ownsRow B e size v n xs) (hf : DFr p r w w') : w'.ownsRow B e size v n xs :=
  ownsRow_move h fun b hk => hf.block b (h.lt b hk).2 (by have := (h.lt b hk).1; rintro (e | e) <;> omega)

theorem toList_nil_size {s : ByteArray} (h : s.toList = []) : s.size = 0 := by
  rw [ByteArray.toList_eq] at h
  have := congrArg List.length h
  simpa using this

set_option maxHeartbeats 4000000 in
set_option maxRecDepth 100000 in
theorem logOpen_any {w : World} {p r m : Nat} {D : DSt} (nm : ByteArray) (hd : DRep w p r D) (hD : DOk m D) (hn : 1 ≤ nm.size ∧ nm.size ≤ 28)
    (hcap : ∀ (n : Nat) (D' : DSt) (L' : LSt) (all : List ByteArray) (t : Bool), Opening D nm n D' L' all t → n < 100 ∧ all.length ≤ 400000) :
    Calls Tryd.prog 10 #[.pointer (some ⟨p, 0, none⟩), .string nm] w fun e w' => OpenPost w.heap.size p r w D nm e w' := by
  have hn1 : ¬ nm.toList = [] := fun h => by have := toList_nil_size h; omega
  have hn2 : nm.toList.isEmpty = false := by rw [Bool.eq_false_iff]; intro h; exact hn1 (List.isEmpty_iff.1 h)
  have hn3 : ¬ (28 : Int) < (nm.size : Int) := by omega
  have HD := Lib.hid hd
  obtain ⟨B, hB⟩ : ∃ B, B = w.heap.size := ⟨_, rfl⟩
  have hpB : p < B := by rw [hB]; exact hd.lt
  have hrB : r < B := by rw [hB]; exact hd.2.lt
  rw [← hB]
  have HB := Lib.hid hB
  have HC := Lib.hid hcap
  clear hd hcap hB
  go_enter Tryd.func10, Tryd.ntmps10
  go_upto_region 4 with fail
  rw [← HB.out]
  obtain ⟨w0, hw0⟩ : ∃ w0, w0 = w.alloc (.cells (lcells ⟨nm, -1, 0, 0, false⟩ p) 61) := ⟨_, rfl⟩
  have HL0 := Lib.hid (show LogRep w0 B p ⟨nm, -1, 0, 0, false⟩ by rw [hw0, HB.out]; exact heap_alloc_new _ _)
  have HF0 := Lib.hid (show Below B w w0 by rw [hw0]; exact (Below.refl B w).alloc (Nat.le_of_eq HB.out) _)
  have HD0 := Lib.hid (show DRep w0 p r D from HD.out.belowB HF0.out hpB hrB)
  rw [show (Obj.cells #[.pointer (some ⟨p, 0, none⟩), .string nm, .int .i64 (-1), .int .i64 0, .int .i64 0, .bool false] 61) = .cells (lcells ⟨nm, -1, 0, 0, false⟩ p) 61 from rfl, ← hw0]
  clear hw0
  go_wp2_with fail
  go_loopw [8, 9, 10] (fun vv tv nv wr => ∃ (n : Nat) (D' : DSt) (L : LSt) (all : List ByteArray) (t : Bool), Opening D nm n D' L all t ∧ tv = .bool t ∧ nv = .int .i64 n ∧ wr.ownsRow B 9 1 vv all.length (all.map Value.string) ∧ LogRep wr B p L ∧ DRep wr p r D' ∧ BFr B p r w wr) (fun _ _ nv _ => 100 - (intOf nv).toNat)
  case atStart => exact ⟨0, D, _, [], false, .start, rfl, rfl, own_none _ _ _ _, HL0.out, HD0.out, bfr_of HF0.out⟩
  case round =>
    obtain ⟨n, D', L, all, t, hop, rfl, rfl, hor, hlr, hdr, hbr⟩ := hrel
    obtain ⟨hn9, ha9⟩ := HC.out _ _ _ _ _ hop
    obtain ⟨hnm, k, hk⟩ := hop.ok hD
    have hL : 1 ≤ L.name.size ∧ L.name.size ≤ 28 := by rw [hnm]; exact hn
    have HOP := Lib.hid hop
    have HLR := Lib.hid hlr
    have HDR := Lib.hid hdr
    have HBR := Lib.hid hbr
    have HOR := Lib.hid hor
    clear hop hlr hdr hbr
    cases t with
    | true =>
      have hsg := fun w' (h : LogRep w' B p L) => segment_any n hn9 h hL.2
      rw [hnm] at hsg
      have HSG := Lib.hid hsg
      have HCT := Lib.hid (fun (w' : World) (h : DRep w' p r D') => cut_any (seg nm n) 0 h hk.left0 hk.left1)
      have HTE := Lib.hid (fun h => Opening.tear HOP.out h)
      have HTN := Lib.hid (fun h => OpenEnd.tear HOP.out h)
      obtain ⟨sg, hsg2⟩ : ∃ sg, sg = seg nm n := ⟨_, rfl⟩
      rw [← hsg2] at HSG HCT HTE HTN
      obtain ⟨⟨E, D2⟩, hE⟩ : ∃ X, X = cutS D' sg 0 := ⟨_, rfl⟩
      rw [← hE] at HCT HTE HTN
      simp only at HCT HTE HTN
      obtain ⟨A, c, rfl, hac⟩ := own_slice hor
      clear hsg hsg2 hor hE
      go_upto_region 11 with (first
        | (go_at_call 25; refine (HSG.out _ HLR.out).mono ?_; rintro e w8 ⟨rfl, hb8⟩; have HL8 := Lib.hid (HLR.out.below hb8); have HD8 := Lib.hid (HDR.out.below hb8); have HO8 := Lib.hid (own_below HOR.out hb8); have HF8 := Lib.hid (HBR.out.trans (Fr.of_below (S := fun _ => False) hb8) (fun _ _ h => h.elim)); clear hb8)
        | (go_at_call 24; refine (HCT.out _ HD8.out).mono ?_; rintro e w9 ⟨rfl, hd9, hf9⟩; have HD9 := Lib.hid hd9; have HL9 := Lib.hid (HL8.out.dfr HD8.out hf9); have HO9 := Lib.hid (own_dfr2 hpB hrB HO8.out hf9); have HF9 := Lib.hid (HF8.out.trans hf9 (fun _ _ h => by rcases h with h | h; exact .inl h; exact .inr (.inl h))); clear hd9 hf9))
      obtain ⟨_, _, c2, c3, c4, _, cf⟩ := box6 HL9.out
      have cf2 := cf 2
      have cf3 := cf 3
      have cf4 := cf 4
      clear cf
      by_cases h0 : E = 0
      · subst h0
        have HTE' := Lib.hid (HTE.out rfl)
        clear c4 cf4
        go_upto_region 14 with fail
        obtain ⟨wz, hwz⟩ : ∃ wz, wz = (w9.setCell ⟨B, 2, none⟩ (.int .i64 n)).setCell ⟨B, 3, none⟩ (.int .i64 0) := ⟨_, rfl⟩
        have HLZ := Lib.hid (show LogRep wz B p { L with last := n, size := 0 } by rw [hwz]; exact LogRep.set (L := { L with last := n }) (HL9.out.set 2 _ rfl) 3 _ rfl)
        have HDZ := Lib.hid (show DRep wz p r D2 by rw [hwz]; exact (HD9.out.setq HL9.out 2 _).setq (L := { L with last := n }) (HL9.out.set 2 _ rfl) 3 _)
        have HFZ := Lib.hid (show BFr B p r w wz by rw [hwz]; exact (HF9.out.setCell (p := ⟨B, 2, none⟩) (.inr (.inr (.inr (Nat.le_refl _)))) _).setCell (p := ⟨B, 3, none⟩) (.inr (.inr (.inr (Nat.le_refl _)))) _)
        have HOZ := Lib.hid (show wz.ownsRow B 9 1 (.slice A all.length c) all.length (all.map Value.string) by rw [hwz]; exact own_setCell (own_setCell HO9.out (HL9.out.own_ne HO9.out) _) (HL9.out.own_ne HO9.out) _)
        rw [← hwz]
        clear hwz c2 c3
        go_wp2_with fail
        exact ⟨⟨n + 1, D2, _, all, true, HTE'.out, rfl, by go_num, HOZ.out, HLZ.out, HDZ.out, HFZ.out⟩, by simp [intOf]; omega⟩
      · have HTN' := Lib.hid (HTN.out h0)
        by_cases h10 : E = 10
        · subst h10
          go_wp2_with fail
          go_ret3
          exact ⟨10, _, _, _, HTN'.out, HD9.out.setq HL9.out 4 _, HF9.out.setCell (p := ⟨B, 4, none⟩) (.inr (.inr (.inr (Nat.le_refl _)))) _, .inl ⟨rfl, B, _, Nat.le_refl _, rfl, LogRep.set HL9.out 4 _ rfl, own_setCell HO9.out (HL9.out.own_ne HO9.out) _⟩⟩
        · go_wp2_with fail
          go_ret3
          exact ⟨E, _, _, _, HTN'.out, HD9.out, HF9.out, .inr ⟨h10, rfl⟩⟩
    | false =>
      obtain ⟨A, c, rfl, hac⟩ := own_slice hor
      clear hor
      by_cases he : (readS D' (seg nm n)).2 = 0
      · obtain ⟨⟨dat, E⟩, hE⟩ : ∃ X, X = readS D' (seg nm n) := ⟨_, rfl⟩
        have he2 : E = 0 := by rw [← hE] at he; exact he
        subst he2
        have hE2 : readS D' (seg L.name n) = (dat, 0) := by rw [hnm]; exact hE.symm
        have HR := Lib.hid (fun (w' : World) (h1 : LogRep w' B p L) (h2 : DRep w' p r D') (h3 : w'.ownsRow B 9 1 (.slice A all.length c) all.length (all.map Value.string)) => logRead_ok2 hnm h1 h2 hL hn9 hpB hrB (Nat.le_refl B) hk hE2 h3 ha9)
        clear he hE2
        go_upto_region 14 with (go_at_call 26; refine (HR.out _ HLR.out HDR.out HOR.out).mono ?_; rintro e w9 ⟨v', t, x, rfl, hp9⟩)
        have HP9 := Lib.hid hp9
        obtain ⟨recs, a, hrun, hstop, ho9, hl9, hcase⟩ := hp9
        obtain ⟨A9, c9, rfl, hac9⟩ := own_slice ho9
        have HO9 := Lib.hid ho9
        have HL9 := Lib.hid hl9
        have HE := Lib.hid hE.symm
        have HRUN := Lib.hid hrun
        have HSTOP := Lib.hid hstop
        obtain ⟨_, _, _, _, c4, _, cf⟩ := box6 hl9
        have cf4 := cf 4
        obtain ⟨X, hX⟩ : ∃ X, X = all ++ recs := ⟨_, rfl⟩
        rw [← hX] at HO9 ⊢
        have HX := Lib.hid hX
        clear cf ho9 hl9 hE hrun hstop HP9 hX
        rcases hcase with ⟨rfl, rfl, rfl, hd9, hf9⟩ | ⟨hlt, rfl, rfl, hd9, hf9⟩
        · have HD9 := Lib.hid hd9
          have HF9 := Lib.hid (HBR.out.trans (bfr_of hf9) fun _ _ h => h)
          have HN := Lib.hid (Opening.whole HOP.out HE.out HRUN.out)
          rw [← HX.out] at HN
          clear hd9 hf9 c4 cf4
          go_wp2_with fail
          exact ⟨⟨n + 1, D', _, X, false, HN.out, rfl, by go_num, HO9.out, HL9.out, HD9.out, HF9.out⟩, by simp [intOf]; omega⟩
        · have HD9 := Lib.hid hd9
          have HF9 := Lib.hid (HBR.out.trans hf9 fun _ _ h => h)
          have HN := Lib.hid (fun h => Opening.torn HOP.out HE.out HRUN.out HSTOP.out hlt h)
          have HM := Lib.hid (fun h => OpenEnd.torn HOP.out HE.out HRUN.out HSTOP.out hlt h)
          rw [← HX.out] at HN HM
          clear hd9 hf9
          obtain ⟨⟨E, D2⟩, hE⟩ : ∃ X, X = cutS D' (seg nm n) a := ⟨_, rfl⟩
          rw [← hE] at HD9 HN HM
          simp only at HD9 HN HM
          rw [show (cutS D' (seg nm n) a).1 = E by rw [← hE]]
          clear hE
          by_cases h0 : E = 0
          · subst h0
            clear c4 cf4
            have HN' := Lib.hid (HN.out rfl)
            go_wp2_with fail
            exact ⟨⟨n + 1, D2, _, X, true, HN'.out, rfl, by go_num, HO9.out, HL9.out, HD9.out, HF9.out⟩, by simp [intOf]; omega⟩
          · have HM' := Lib.hid (HM.out h0)
            by_cases h10 : E = 10
            · subst h10
              go_wp2_with fail
              go_ret3
              exact ⟨10, _, _, _, HM'.out, HD9.out.setq HL9.out 4 _, HF9.out.setCell (p := ⟨B, 4, none⟩) (.inr (.inr (.inr (Nat.le_refl _)))) _, .inl ⟨rfl, B, _, Nat.le_refl _, rfl, LogRep.set HL9.out 4 _ rfl, own_setCell HO9.out (HL9.out.own_ne HO9.out) _⟩⟩
            · go_wp2_with fail
              go_ret3
              exact ⟨E, _, _, _, HM'.out, HD9.out, HF9.out, .inr ⟨h10, rfl⟩⟩
      · have hx := logRead_err (n := n) (A := A) (k := all.length) (c := c) HLR.out HDR.out hL hn9 (by rw [hnm]; exact he)
        rw [hnm] at hx
        have HX := Lib.hid hx
        have HEND := Lib.hid (OpenEnd.none HOP.out he)
        obtain ⟨E, hE⟩ : ∃ E, E = (readS D' (seg nm n)).2 := ⟨_, rfl⟩
        rw [← hE] at HX HEND he
        clear hE hx
        by_cases h10 : E = 10
        · subst h10
          go_upto_region 14 with (go_at_call 26; refine HX.out.mono ?_; rintro e w9 ⟨rfl, hb9⟩; have hlr9 := HLR.out.below hb9; have hdr9 := HDR.out.below hb9; have hor9 := own_below HOR.out hb9; have hbr9 := HBR.out.trans (Fr.of_below (S := fun _ => False) hb9) (fun _ _ h => h.elim); have HL9 := Lib.hid hlr9; have HD9 := Lib.hid hdr9; have HO9 := Lib.hid hor9; have HF9 := Lib.hid hbr9; clear hb9 hdr9 hor9 hbr9)
          obtain ⟨_, _, _, _, c4, _, cf⟩ := box6 hlr9
          have cf4 := cf 4
          clear cf hlr9
          go_wp2_with fail
          go_ret3
          exact ⟨10, _, _, _, HEND.out, HD9.out.setq HL9.out 4 _, HF9.out.setCell (p := ⟨B, 4, none⟩) (.inr (.inr (.inr (Nat.le_refl _)))) _, .inl ⟨rfl, B, _, Nat.le_refl _, rfl, LogRep.set HL9.out 4 _ rfl, own_setCell HO9.out (HL9.out.own_ne HO9.out) _⟩⟩
        · go_wp2_with (go_at_call 26; refine HX.out.mono ?_; rintro e w9 ⟨rfl, hb9⟩)
          go_ret3
          exact ⟨E, _, _, _, HEND.out, HDR.out.below hb9, HBR.out.trans (Fr.of_below (S := fun _ => False) hb9) (fun _ _ h => h.elim), .inr ⟨h10, rfl⟩⟩

end Go.Proofs.YtdogmcpmlglkfaaDoor
