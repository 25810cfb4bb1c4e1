/- DiskSafe: the walk of the law. -/
import Derived.Test.YtdogmcpmlglkfaaDA
namespace Go.Proofs.Ytdogmcpmlglkfaa
open Go.RowKit Go.Proofs.YtdogmcpmlglkfaaW.PrintWords

def nF : ByteArray := ⟨#[102]⟩
theorem nF_ok : badName nF = false := by kernel_rfl
def dsk (fs : List DFile) : DSt := ⟨2000, false, 0, false, fs⟩

theorem dsk_begin (fs : List DFile) : beginS (dsk fs) nF = (0, dsk fs) := by
  unfold beginS
  rw [if_neg (show ¬ (dsk fs).off = true from fun h => absurd (show false = true from h) (by decide)), if_neg (show ¬ ((dsk fs).armed = true ∧ (dsk fs).left = 0) from fun h => by cases h.1), nF_ok]
  rfl

theorem dsk_append (fs : List DFile) (d : ByteArray) (h : (used fs : Int) + d.size ≤ 2000) : appendS (dsk fs) nF d = (0, dsk (dput fs ⟨nF, ((dget fs nF).getD zfile).data ++ d, ((dget fs nF).getD zfile).safe⟩)) := by
  unfold appendS
  rw [dsk_begin, if_pos rfl, if_neg (show ¬ (dsk fs).room - (used (dsk fs).fs : Int) < (d.size : Int) by show ¬ (2000 : Int) - (used fs : Int) < (d.size : Int); omega)]
  rfl

theorem nil_append (a : ByteArray) : (⟨#[]⟩ : ByteArray) ++ a = a := by
  apply WideShapes.bytes_inj
  simp

theorem dsk_append0 (a : ByteArray) (h : a.size ≤ 500) : appendS (dsk []) nF a = (0, dsk [⟨nF, a, 0⟩]) := by
  rw [dsk_append [] a (by show ((0 : Nat) : Int) + a.size ≤ 2000; omega)]
  show (0, dsk [⟨nF, (⟨#[]⟩ : ByteArray) ++ a, 0⟩]) = _
  rw [nil_append]

theorem one_get (d : ByteArray) (n : Nat) : dget [⟨nF, d, n⟩] nF = some ⟨nF, d, n⟩ := by simp [dget]
theorem one_put (d d' : ByteArray) (n n' : Nat) : dput [⟨nF, d, n⟩] ⟨nF, d', n'⟩ = [⟨nF, d', n'⟩] := by
  unfold dput
  rw [one_get]
  simp
theorem one_used (d : ByteArray) (n : Nat) : used [⟨nF, d, n⟩] = d.size := by simp [used]

theorem dsk_append1 (a b : ByteArray) (n : Nat) (h : a.size ≤ 500) (h2 : b.size ≤ 500) : appendS (dsk [⟨nF, a, n⟩]) nF b = (0, dsk [⟨nF, a ++ b, n⟩]) := by
  rw [dsk_append _ _ (by rw [one_used]; omega), one_get]
  show (0, dsk (dput [⟨nF, a, n⟩] ⟨nF, a ++ b, n⟩)) = _
  rw [one_put]

theorem dsk_sync (a : ByteArray) (n : Nat) : syncS (dsk [⟨nF, a, n⟩]) nF = (0, dsk [⟨nF, a, a.size⟩]) := by
  have ht : thereS (dsk [⟨nF, a, n⟩]) nF = (⟨nF, a, n⟩, 0) := by
    unfold thereS
    rw [dsk_begin, if_pos rfl]
    simp only [dsk, one_get]
  unfold syncS
  rw [ht, dsk_begin, if_pos rfl]
  show (0, dsk (dput [⟨nF, a, n⟩] ⟨nF, a, a.size⟩)) = _
  rw [one_put]

theorem dsk_crash (keep : List Int) (d : ByteArray) (n : Nat) : crashS (dsk [⟨nF, d, n⟩]) keep [nF] = dsk [⟨nF, d.extract 0 (crashN keep 0 ⟨nF, d, n⟩), crashN keep 0 ⟨nF, d, n⟩⟩] := by
  have hix : nameIx [nF] nF = 0 := by simp [nameIx]
  unfold crashS crashK
  show (⟨2000, false, 0, false, [if nameIx [nF] nF < 1 then crash1 keep (nameIx [nF] nF) ⟨nF, d, n⟩ else ⟨nF, d, n⟩]⟩ : DSt) = _
  rw [hix, if_pos (by omega)]
  rfl

theorem dsk_read (d : ByteArray) (n : Nat) : readS (dsk [⟨nF, d, n⟩]) nF = (d, 0) := by
  unfold readS
  rw [if_neg (show ¬ (dsk [⟨nF, d, n⟩]).off = true from fun h => absurd (show false = true from h) (by decide))]
  simp only [dsk, one_get]

theorem crashN_le (keep : List Int) (i : Nat) (f : DFile) (h : f.safe ≤ f.data.size) : f.safe ≤ crashN keep i f ∧ crashN keep i f ≤ f.data.size := by
  unfold crashN
  split <;> omega

theorem keep_ne {w : World} {A : Option Addr} {keep : List Int} {p r : Nat} (h : Kd.C (Kd.int .i64) w A keep.length keep) {ad : Addr} (e : A = some ad) (h0 : 0 < keep.length) (hp : w.heap.size ≤ p) (hr : w.heap.size ≤ r) : ad.block ≠ p ∧ ad.block ≠ r := by
  have := keep_block h e h0
  exact ⟨by omega, by omega⟩

set_option maxHeartbeats 2000000 in
set_option maxRecDepth 100000 in
theorem safe_walk (a b : ByteArray) (A : Option Addr) (c : Nat) (keep : List Int) (w : World) (hc : keep.length ≤ c) (hr : Kd.C (Kd.int .i64) w A keep.length keep) :
    Calls Try.prog 3 #[.string a, .string b, .slice A keep.length c] w fun e w' => e = .returned (.bool true) ∧ Below w.heap.size w w' := by
  have HR := Lib.hid hr
  clear hr
  by_cases hbig : 500 < a.size ∨ 500 < b.size
  · go_enter Try.func3, Try.ntmps3
    go_wp2_with (go_at_call 8; refine (awake_any _).mono ?_; rintro e w2 ⟨rfl, hb2⟩)
    all_goals go_ret
    all_goals exact ⟨rfl, hb2⟩
  · have ha : a.size ≤ 500 := by omega
    have hb : b.size ≤ 500 := by omega
    have HU3 := Lib.hid (show (used (dsk [⟨nF, a, a.size⟩]).fs : Int) ≤ (dsk [⟨nF, a, a.size⟩]).room by show (used [⟨nF, a, a.size⟩] : Int) ≤ 2000; rw [one_used]; omega)
    have HOK := Lib.hid (show ∀ f ∈ (dsk [⟨nF, a ++ b, a.size⟩]).fs, f.name.size ≤ maxLen ∧ f.safe ≤ f.data.size ∧ f.data.size ≤ 4194304 from fun f hf => by
      obtain rfl := List.mem_singleton.1 hf
      refine ⟨of_decide_eq_true (by kernel_rfl), ?_, ?_⟩
      · show a.size ≤ (a ++ b).size
        rw [ByteArray.size_append]; omega
      · show (a ++ b).size ≤ _
        rw [ByteArray.size_append]; omega)
    clear hbig
    go_enter Try.func3, Try.ntmps3
    go_wp2_with (first
      | (go_at_call 8; refine (awake_any _).mono ?_; rintro e w2 ⟨rfl, hb2⟩; have HB0 := Lib.hid hb2; clear hb2)
      | (go_at_call 9; refine (new_ok 2000 _ (by omega) (by omega)).mono ?_; rintro e w1 ⟨p, r, rfl, hd1, hp0, hr0, hb1⟩; have hp := Nat.le_trans HB0.out.size hp0; have hr := Nat.le_trans HB0.out.size hr0; have HD1 := Lib.hid (show DRep w1 p r (dsk []) from hd1); have HB1 := Lib.hid (HB0.out.trans (hb1.mono HB0.out.size)); clear hd1 hb1 hp0 hr0)
      | (go_at_call 10; refine (append_any nF a HD1.out (by decide) (by decide) (by decide) (by decide)).mono ?_; rintro e w2 ⟨rfl, hd2, hf2⟩; rw [dsk_append0 a ha] at hd2 ⊢; have HD2 := Lib.hid hd2; have HB2 := Lib.hid (hf2.to_below HB1.out hp hr); clear hd2 hf2 HD1)
      | (go_at_call 11; refine (sync_any nF HD2.out (Int.le_refl 0) (of_decide_eq_true rfl)).mono ?_; rintro e w3 ⟨rfl, hd3, hf3⟩; rw [dsk_sync] at hd3 ⊢; have HD3 := Lib.hid hd3; have HB3 := Lib.hid (hf3.to_below HB2.out hp hr); clear hd3 hf3)
      | (go_at_call 10; refine (append_any nF b HD3.out (Int.le_refl 0) (of_decide_eq_true rfl) (of_decide_eq_true rfl) HU3.out).mono ?_; rintro e w4 ⟨rfl, hd4, hf4⟩; rw [dsk_append1 a b _ ha hb] at hd4 ⊢; have HD4 := Lib.hid hd4; have HB4 := Lib.hid (hf4.to_below HB3.out hp hr); clear hd4 hf4)
      | (go_at_call 12; refine (crash_any keep HD4.out HOK.out (Nat.le_of_ble_eq_true rfl) hc (Kd.C_below HR.out HB4.out) (fun ad e h0 => keep_ne HR.out e h0 hp hr)).mono ?_; rintro e w5 ⟨ns, rfl, hperm, _, _, hd5, hf5⟩; obtain rfl : ns = [nF] := List.perm_singleton.1 hperm; rw [dsk_crash] at hd5; have hcn := crashN_le keep 0 ⟨nF, a ++ b, a.size⟩ (HOK.out _ (List.mem_singleton.2 rfl)).2.1; obtain ⟨m, hm⟩ : ∃ m, m = crashN keep 0 ⟨nF, a ++ b, a.size⟩ := ⟨_, rfl⟩; rw [← hm] at hd5 hcn; simp only [ByteArray.size_append] at hcn; obtain ⟨hm1, hm2⟩ := hcn; have hmin : min m (a.size + b.size) = m := Nat.min_eq_left hm2; clear hm; have HD5 := Lib.hid hd5; have HB5 := Lib.hid (hf5.to_below HB4.out hp hr); clear hd5 hf5 hperm)
      | (go_at_call 13; refine (read_any nF HD5.out).mono ?_; rintro e w6 ⟨rfl, hb6⟩; rw [dsk_read]; have HB6 := Lib.hid (HB5.out.trans (hb6.mono HB5.out.size)); clear hb6))
    go_ret
    exact ⟨by simp, HB6.out⟩

end Go.Proofs.Ytdogmcpmlglkfaa
