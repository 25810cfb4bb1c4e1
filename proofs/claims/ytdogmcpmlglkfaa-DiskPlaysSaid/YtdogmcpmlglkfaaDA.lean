/- palaverlaw09.awake: the document's example. -/
import Derived.Test.YtdogmcpmlglkfaaD4
namespace Go.Proofs.Ytdogmcpmlglkfaa
open Go.RowKit Go.Proofs.YtdogmcpmlglkfaaW.PrintWords

def nA : ByteArray := ⟨#[97]⟩
def dXY : ByteArray := ⟨#[120, 121]⟩
def dZ : ByteArray := ⟨#[122]⟩
def aw0 : DSt := ⟨9, false, 0, false, []⟩
def aw1 : DSt := ⟨9, false, 0, false, [⟨nA, dXY, 0⟩]⟩
def aw2 : DSt := ⟨9, false, 0, false, [⟨nA, dXY, 2⟩]⟩
def aw3 : DSt := ⟨9, false, 0, false, [⟨nA, dXY ++ dZ, 2⟩]⟩
theorem aw01 : appendS aw0 nA dXY = (0, aw1) := by kernel_rfl
theorem aw12 : syncS aw1 nA = (0, aw2) := by kernel_rfl
theorem aw23 : appendS aw2 nA dZ = (0, aw3) := by kernel_rfl
theorem aw34 : crashS aw3 [] [nA] = aw2 := by kernel_rfl
theorem aw4r : readS aw2 nA = (dXY, 0) := by kernel_rfl
theorem aw4u : used aw2.fs = 2 := by kernel_rfl

theorem DFr.to_below {w0 w w' : World} {p r : Nat} (h : DFr p r w w') (h0 : Below w0.heap.size w0 w) (hp : w0.heap.size ≤ p) (hr : w0.heap.size ≤ r) : Below w0.heap.size w0 w' :=
  h0.trans (Fr.to_below h h0.size fun k hk hc => by rcases hc with e | e <;> omega)

theorem aw0a : 0 ≤ aw0.left ∧ aw0.left ≤ 9223372036854775807 ∧ aw0.room ≤ 4194304 ∧ (used aw0.fs : Int) ≤ aw0.room := of_decide_eq_true (by kernel_rfl)
theorem aw1a : 0 ≤ aw1.left ∧ aw1.left ≤ 9223372036854775807 := of_decide_eq_true (by kernel_rfl)
theorem aw2a : 0 ≤ aw2.left ∧ aw2.left ≤ 9223372036854775807 ∧ aw2.room ≤ 4194304 ∧ (used aw2.fs : Int) ≤ aw2.room := of_decide_eq_true (by kernel_rfl)
theorem aw2b : used aw2.fs ≤ 4611686018427387904 := of_decide_eq_true (by kernel_rfl)
theorem aw3a : aw3.fs.length ≤ 1000000 := of_decide_eq_true (by kernel_rfl)

theorem aw3ok : ∀ f ∈ aw3.fs, f.name.size ≤ maxLen ∧ f.safe ≤ f.data.size ∧ f.data.size ≤ 4194304 := by
  intro f hf
  rw [List.mem_singleton.1 hf]
  exact ⟨of_decide_eq_true (by kernel_rfl), of_decide_eq_true (by kernel_rfl), of_decide_eq_true (by kernel_rfl)⟩

set_option maxHeartbeats 2000000 in
set_option maxRecDepth 100000 in
theorem awake_any (w : World) : Calls Try.prog 8 #[] w fun e w' => e = .returned (.bool true) ∧ Below w.heap.size w w' := by
  have hx : dXY.toList = [120, 121] := by kernel_rfl
  go_enter Try.func8, Try.ntmps8
  go_wp2_with (first
    | (go_at_call 9; refine (new_ok 9 _ (by omega) (by omega)).mono ?_; rintro e w1 ⟨p, r, rfl, hd1, hp, hr, hb1⟩; have HD1 := Lib.hid (show DRep w1 p r aw0 from hd1); have HB1 := Lib.hid hb1; clear hd1 hb1)
    | (go_at_call 10; refine (append_any nA dXY HD1.out aw0a.1 aw0a.2.1 aw0a.2.2.1 aw0a.2.2.2).mono ?_; rintro e w2 ⟨rfl, hd2, hf2⟩; rw [aw01] at hd2 ⊢; have HD2 := Lib.hid (show DRep w2 p r aw1 from hd2); have HB2 := Lib.hid (hf2.to_below HB1.out hp hr); clear hd2 hf2 HD1)
    | (go_at_call 11; refine (sync_any nA HD2.out aw1a.1 aw1a.2).mono ?_; rintro e w3 ⟨rfl, hd3, hf3⟩; rw [aw12] at hd3 ⊢; have HD3 := Lib.hid (show DRep w3 p r aw2 from hd3); have HB3 := Lib.hid (hf3.to_below HB2.out hp hr); clear hd3 hf3)
    | (go_at_call 10; refine (append_any nA dZ HD3.out aw2a.1 aw2a.2.1 aw2a.2.2.1 aw2a.2.2.2).mono ?_; rintro e w4 ⟨rfl, hd4, hf4⟩; rw [aw23] at hd4 ⊢; have HD4 := Lib.hid (show DRep w4 p r aw3 from hd4); have HB4 := Lib.hid (hf4.to_below HB3.out hp hr); clear hd4 hf4)
    | (go_at_call 12; refine (crash_any (A := none) (c := 0) [] HD4.out aw3ok aw3a (Nat.le_refl 0) ⟨rfl, Nat.zero_le _, fun h => absurd h (Nat.lt_irrefl 0)⟩ (fun ad e => by cases e)).mono ?_; rintro e w5 ⟨ns, rfl, hperm, _, _, hd5, hf5⟩; obtain rfl : ns = [nA] := List.perm_singleton.1 hperm; rw [aw34] at hd5; have HD5 := Lib.hid hd5; have HB5 := Lib.hid (hf5.to_below HB4.out hp hr); clear hd5 hf5 hperm)
    | (go_at_call 13; refine (read_any nA HD5.out).mono ?_; rintro e w6 ⟨rfl, hb6⟩; rw [aw4r]; have HD6 := Lib.hid (HD5.out.below hb6); have HB6 := Lib.hid (HB5.out.trans (hb6.mono HB5.out.size)); clear hb6)
    | (go_at_call 15; refine (on_any HD6.out).mono ?_; rintro e w7 ⟨rfl, hb7⟩; rw [show aw2.off = false from rfl]; have HD7 := Lib.hid (HD6.out.below hb7); have HB7 := Lib.hid (HB6.out.trans (hb7.mono HB6.out.size)); clear hb7)
    | (go_at_call 16; refine (used_any HD7.out aw2b).mono ?_; rintro e w8 ⟨rfl, hb8⟩; rw [aw4u]; have HB8 := Lib.hid (HB7.out.trans (hb8.mono HB7.out.size)); clear hb8))
  go_ret
  exact ⟨rfl, HB8.out⟩

end Go.Proofs.Ytdogmcpmlglkfaa
