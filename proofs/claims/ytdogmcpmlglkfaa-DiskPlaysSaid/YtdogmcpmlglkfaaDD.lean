/- palaverlaw09.do: an act, done to a disk. -/
import Derived.Test.YtdogmcpmlglkfaaDS
import Derived.Test.YtdogmcpmlglkfaaPRefx
namespace Go.Proofs.Ytdogmcpmlglkfaa
open Go.RowKit Go.Proofs.YtdogmcpmlglkfaaW.PrintWords Go.Proofs.Ytdogmcpmlglkfaa.PRef

abbrev Act9 := S44

set_option maxHeartbeats 1000000 in
theorem do_nil (x : Act9) (A : Option Addr) (c : Nat) (w : World) :
    Calls Try.prog 18 #[.pointer none, .agg #[.int .i64 x.f0, .string x.f1, .string x.f2, .int .i64 x.f3, .slice A x.f4.length c]] w fun e w' =>
      e = .returned (.tuple #[.string ⟨#[]⟩, .int .i64 (if 0 ≤ x.f0 ∧ x.f0 ≤ 3 then 1 else 0)]) ∧ Below w.heap.size w w' := by
  by_cases h0 : x.f0 = 0
  · rw [show (if 0 ≤ x.f0 ∧ x.f0 ≤ 3 then 1 else 0 : Int) = 1 by rw [if_pos (by omega)]]
    go_enter Try.func18, Try.ntmps18
    go_wp2_with (go_at_call 10; refine (append_nil _ _ _).mono ?_; rintro e w1 ⟨rfl, rfl⟩)
    go_ret2
    exact ⟨rfl, (Below.refl _ _).alloc (Nat.le_refl _) _⟩
  · skip
    by_cases h1 : x.f0 = 1
    · rw [show (if 0 ≤ x.f0 ∧ x.f0 ≤ 3 then 1 else 0 : Int) = 1 by rw [if_pos (by omega)]]
      go_enter Try.func18, Try.ntmps18
      go_wp2_with (go_at_call 11; refine (sync_nil _ _).mono ?_; rintro e w1 ⟨rfl, hb1⟩)
      go_ret2
      exact ⟨rfl, ((Below.refl _ _).alloc (Nat.le_refl _) _).trans (hb1.mono (by rw [asz]; omega))⟩
    · skip
      by_cases h2 : x.f0 = 2
      · rw [show (if 0 ≤ x.f0 ∧ x.f0 ≤ 3 then 1 else 0 : Int) = 1 by rw [if_pos (by omega)]]
        go_enter Try.func18, Try.ntmps18
        go_wp2_with (go_at_call 26; refine (cut_nil _ _ _).mono ?_; rintro e w1 ⟨rfl, hb1⟩)
        go_ret2
        exact ⟨rfl, ((Below.refl _ _).alloc (Nat.le_refl _) _).trans (hb1.mono (by rw [asz]; omega))⟩
      · skip
        by_cases h3 : x.f0 = 3
        · rw [show (if 0 ≤ x.f0 ∧ x.f0 ≤ 3 then 1 else 0 : Int) = 1 by rw [if_pos (by omega)]]
          go_enter Try.func18, Try.ntmps18
          go_wp2_with (go_at_call 13; refine (read_nil _ _).mono ?_; rintro e w1 ⟨rfl, rfl⟩)
          go_ret2
          exact ⟨rfl, (Below.refl _ _).alloc (Nat.le_refl _) _⟩
        · skip
          by_cases h4 : x.f0 = 4
          · rw [show (if 0 ≤ x.f0 ∧ x.f0 ≤ 3 then 1 else 0 : Int) = 0 by rw [if_neg (by omega)]]
            go_enter Try.func18, Try.ntmps18
            go_wp2_with (go_at_call 14; refine (arm_nil _ _).mono ?_; rintro e w1 ⟨rfl, rfl⟩)
            go_ret2
            exact ⟨rfl, (Below.refl _ _).alloc (Nat.le_refl _) _⟩
          · skip
            rw [show (if 0 ≤ x.f0 ∧ x.f0 ≤ 3 then 1 else 0 : Int) = 0 by rw [if_neg (by omega)]]
            go_enter Try.func18, Try.ntmps18
            go_wp2_with (go_at_call 12; refine (crash_nil _ _ _ _).mono ?_; rintro e w1 ⟨rfl, rfl⟩)
            go_ret2
            exact ⟨rfl, (Below.refl _ _).alloc (Nat.le_refl _) _⟩

end Go.Proofs.Ytdogmcpmlglkfaa
