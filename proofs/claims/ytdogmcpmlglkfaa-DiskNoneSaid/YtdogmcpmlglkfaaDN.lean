/- DiskNone: the walk of the law. -/
import Derived.Test.YtdogmcpmlglkfaaDD
namespace Go.Proofs.Ytdogmcpmlglkfaa
open Go.RowKit Go.Proofs.YtdogmcpmlglkfaaW.PrintWords Go.Proofs.Ytdogmcpmlglkfaa.PRef

set_option maxHeartbeats 2000000 in
set_option maxRecDepth 100000 in
theorem dnone_walk (x : Act9) (A : Option Addr) (c : Nat) (w : World) :
    Calls Try.prog 7 #[.agg #[.int .i64 x.f0, .string x.f1, .string x.f2, .int .i64 x.f3, .slice A x.f4.length c]] w fun e w' => e = .returned (.bool true) ∧ Below w.heap.size w w' := by
  obtain ⟨E, hE⟩ : ∃ E : Int, E = (if 0 ≤ x.f0 ∧ x.f0 ≤ 3 then 1 else 0) := ⟨_, rfl⟩
  have hdo : ∀ w0, Calls Try.prog 18 #[.pointer none, .agg #[.int .i64 x.f0, .string x.f1, .string x.f2, .int .i64 x.f3, .slice A x.f4.length c]] w0 fun e w' => e = .returned (.tuple #[.string ⟨#[]⟩, .int .i64 E]) ∧ Below w0.heap.size w0 w' := fun w0 => by rw [hE]; exact do_nil x A c w0
  have HDO := Lib.hid hdo
  have HE := Lib.hid hE
  clear hdo hE
  by_cases hbig : 500 < x.f2.size ∨ 500 < x.f1.size
  · go_enter Try.func7, Try.ntmps7
    go_wp2_with (go_at_call 8; refine (awake_any _).mono ?_; rintro e w2 ⟨rfl, hb2⟩)
    all_goals go_ret
    all_goals exact ⟨rfl, ((Below.refl _ _).alloc (Nat.le_refl _) _).trans (hb2.mono (by rw [asz]; omega))⟩
  · have h1 : x.f2.size ≤ 500 := by omega
    have h2 : x.f1.size ≤ 500 := by omega
    clear hbig
    by_cases hin : 0 ≤ x.f0 ∧ x.f0 ≤ 3
    · obtain rfl : E = 1 := by rw [HE.out, if_pos hin]
      obtain ⟨hi1, hi2⟩ := hin
      go_enter Try.func7, Try.ntmps7
      go_wp2_with (first
        | (go_at_call 18; refine (HDO.out _).mono ?_; rintro e w1 ⟨rfl, hb1⟩; have c0 := (hb1.cell (p := ⟨w.heap.size, 0, none⟩) (by rw [asz]; exact Nat.lt_succ_self _)).trans (box5 (heap_alloc_new _ _)).1; have HB1 := Lib.hid (((Below.refl w.heap.size w).alloc (Nat.le_refl _) _).trans (hb1.mono (by rw [asz]; omega))); clear hb1)
        | (go_at_call 8; refine (awake_any _).mono ?_; rintro e w2 ⟨rfl, hb2⟩)
        | (go_at_call 15; refine (on_nil _).mono ?_; rintro e w3 ⟨rfl, rfl⟩)
        | (go_at_call 16; refine (used_nil _).mono ?_; rintro e w3 ⟨rfl, rfl⟩)
        | (go_at_call 23; refine (names_nil _).mono ?_; rintro e w3 ⟨rfl, rfl⟩))
      go_ret
      exact ⟨rfl, HB1.out.trans (hb2.mono HB1.out.size)⟩
    · obtain rfl : E = 0 := by rw [HE.out, if_neg hin]
      by_cases hlo : x.f0 < 0
      · clear hin
        go_enter Try.func7, Try.ntmps7
        go_wp2_with (first
          | (go_at_call 18; refine (HDO.out _).mono ?_; rintro e w1 ⟨rfl, hb1⟩; have c0 := (hb1.cell (p := ⟨w.heap.size, 0, none⟩) (by rw [asz]; exact Nat.lt_succ_self _)).trans (box5 (heap_alloc_new _ _)).1; have HB1 := Lib.hid (((Below.refl w.heap.size w).alloc (Nat.le_refl _) _).trans (hb1.mono (by rw [asz]; omega))); clear hb1)
          | (go_at_call 8; refine (awake_any _).mono ?_; rintro e w2 ⟨rfl, hb2⟩)
          | (go_at_call 15; refine (on_nil _).mono ?_; rintro e w3 ⟨rfl, rfl⟩)
          | (go_at_call 16; refine (used_nil _).mono ?_; rintro e w3 ⟨rfl, rfl⟩)
          | (go_at_call 23; refine (names_nil _).mono ?_; rintro e w3 ⟨rfl, rfl⟩))
        go_ret
        exact ⟨rfl, HB1.out.trans (hb2.mono HB1.out.size)⟩
      · have hi1 : 0 ≤ x.f0 := by omega
        have hi2 : ¬ x.f0 ≤ 3 := fun h => hin ⟨hi1, h⟩
        have hi3 : decide (x.f0 ≤ 3) = false := decide_eq_false hi2
        clear hin
        go_enter Try.func7, Try.ntmps7
        go_wp2_with (first
          | (go_at_call 18; refine (HDO.out _).mono ?_; rintro e w1 ⟨rfl, hb1⟩; have c0 := (hb1.cell (p := ⟨w.heap.size, 0, none⟩) (by rw [asz]; exact Nat.lt_succ_self _)).trans (box5 (heap_alloc_new _ _)).1; have HB1 := Lib.hid (((Below.refl w.heap.size w).alloc (Nat.le_refl _) _).trans (hb1.mono (by rw [asz]; omega))); clear hb1)
          | (go_at_call 8; refine (awake_any _).mono ?_; rintro e w2 ⟨rfl, hb2⟩)
          | (go_at_call 15; refine (on_nil _).mono ?_; rintro e w3 ⟨rfl, rfl⟩)
          | (go_at_call 16; refine (used_nil _).mono ?_; rintro e w3 ⟨rfl, rfl⟩)
          | (go_at_call 23; refine (names_nil _).mono ?_; rintro e w3 ⟨rfl, rfl⟩))
        go_ret
        exact ⟨rfl, HB1.out.trans (hb2.mono HB1.out.size)⟩

end Go.Proofs.Ytdogmcpmlglkfaa
