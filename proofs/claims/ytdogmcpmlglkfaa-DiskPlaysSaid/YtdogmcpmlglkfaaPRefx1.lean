-- PRINTED by print.py (a twelfth state) out of the translation. Not trusted: Lean checks it.
import Derived.Test.YtdogmcpmlglkfaaPRefx0
namespace Go.Proofs.Ytdogmcpmlglkfaa.PRef
open Go.RowKit Go.Proofs.YtdogmcpmlglkfaaW.PrintWords Go.Proofs.YtdogmcpmlglkfaaW.PrintLast Go.Proofs.YtdogmcpmlglkfaaW.PrintMore
attribute [local go_sem] max2_int min2_int max_two min_two max_three min_three max_four min_four   -- for this text's walks alone
set_option linter.unusedVariables false
set_option linter.unusedSimpArgs false

/-! ### palaverlaw09_great: function 17 -/
def palaverlaw09_great.l0 : Nat → List (S44) → Int → Option (Bool)
  | 0, _, _ => none
  | k + 1, x0, x3 => if x3 < (x0.length : Int) then (if 0 ≤ x3 then (if (((rd_T44 x0 x3).f2).size : Int) > 500 then (some true) else (if (((rd_T44 x0 x3).f1).size : Int) > 500 then (some true) else (palaverlaw09_great.l0 k x0 (wrap64 (x3 + 1))))) else (none)) else (some false)
def palaverlaw09_great.f (k : Nat) (l0 : List (S44)) : Option (Bool) := if (l0.length : Int) > 60 then (some true) else (palaverlaw09_great.l0 k l0 0)
theorem palaverlaw09_great.mono_l : ∀ k, (∀ y0 y1, LeO (palaverlaw09_great.l0 k y0 y1) (palaverlaw09_great.l0 (k + 1) y0 y1))
  | 0 => fun _ _ r h => by simp [palaverlaw09_great.l0] at h
  | k + 1 => by
    have ih0 := palaverlaw09_great.mono_l k
    · intro y0 y1
      unfold palaverlaw09_great.l0
      repeat' first
      | (with_reducible exact ih0 _ _)
      | (with_reducible exact LeO.refl _)
      | (with_reducible exact LeO.none _)
      | (with_reducible refine LeO.ite ?_ ?_)
      | (with_reducible refine LeO.bind ?_ (fun _ => ?_))
      | exact ih0 _ _
      | exact LeO.none _
      | refine LeO.ite ?_ ?_
      | refine LeO.bind ?_ (fun _ => ?_)
theorem palaverlaw09_great.mono : ∀ a0 k, LeO (palaverlaw09_great.f k a0) (palaverlaw09_great.f (k + 1) a0) := by
  intro a0 k
  have ih0 := palaverlaw09_great.mono_l k
  unfold palaverlaw09_great.f
  repeat' first
      | (with_reducible exact ih0 _ _)
      | (with_reducible exact LeO.refl _)
      | (with_reducible exact LeO.none _)
      | (with_reducible refine LeO.ite ?_ ?_)
      | (with_reducible refine LeO.bind ?_ (fun _ => ?_))
      | exact ih0 _ _
      | exact LeO.none _
      | refine LeO.ite ?_ ?_
      | refine LeO.bind ?_ (fun _ => ?_)
set_option maxHeartbeats 8000000 in
set_option maxRecDepth 100000 in
theorem palaverlaw09_great.calls (k : Nat) (A0 : Option Addr) (c0 : Nat) (l0 : List (S44)) (r : Bool) (w : World) (hr0 : Kd.C k44 w A0 l0.length l0) (hc0 : l0.length ≤ c0) (h : palaverlaw09_great.f k l0 = some r) :
    Calls Try.prog 17 #[.slice A0 l0.length c0] w fun e w' => e = .returned (.bool r) ∧ Drawn0 w w' := by
  have HR0 := Aside0.mk hr0
  have HC0 := Aside0.mk hc0
  clear hr0 hc0
  have H : (if (l0.length : Int) > 60 then (some true) else (palaverlaw09_great.l0 k l0 0)) = some r := h
  clear h
  by_cases c2 : (l0.length : Int) > 60
  · rw [if_pos c2] at H
    have c2b0 : decide (60 < (l0.length : Int)) = true := decide_eq_true c2
    have c2b1 : decide (60 < l0.length) = true := decide_eq_true (by omega)
    clear c2
    obtain rfl := Option.some.inj H
    go_enter Try.func17, Try.ntmps17
    go_wp2
    go_ret
    exact ⟨by first | rfl | (simp; done) | (simp [*]; done), by repeat (first | exact Drawn0.refl _ | apply Drawn0.step)⟩
  · rw [if_neg c2] at H
    have c2b0 : decide (60 < (l0.length : Int)) = false := decide_eq_false c2
    have c2b1 : decide (60 < l0.length) = false := decide_eq_false (by omega)
    clear c2
    have H' := Aside0.mk H
    clear H
    go_enter Try.func17, Try.ntmps17
    go_wp2
    go_loopg [3] k (fun kq v3 w' => ∃ (x3_1 : Int), v3 = .int .i64 x3_1 ∧ Aside0 (palaverlaw09_great.l0 kq l0 x3_1 = some r) ∧ Aside0 (kq ≤ k) ∧ Drawn0 w w')
    case atStart => exact ⟨(0), (by first | rfl | (simp; done) | (simp [*]; done)), H', ⟨Nat.le_refl _⟩, by repeat (first | exact Drawn0.refl _ | apply Drawn0.step)⟩
    case round =>
      clear H'
      try clear c1
      try clear c2
      try clear c2b0
      try clear c2b1
      try clear p2
      obtain ⟨x3_1, rfl, HA, HK1, ⟨m1, rfl⟩⟩ := hrel
      cases gk with
      | zero => exact absurd HA.out (by simp [palaverlaw09_great.l0])
      | succ k1 =>
        have H := HA.out
        clear HA
        simp only [palaverlaw09_great.l0] at H
        by_cases c3 : x3_1 < (l0.length : Int)
        · rw [if_pos c3] at H
          have c3b0 : decide (x3_1 < (l0.length : Int)) = true := decide_eq_true c3
          clear c3
          by_cases c4 : 0 ≤ x3_1
          · rw [if_pos c4] at H
            have c4b0 : decide (0 ≤ x3_1) = true := decide_eq_true c4
            clear c4
            by_cases c5 : (((rd_T44 l0 x3_1).f2).size : Int) > 500
            · rw [if_pos c5] at H
              have c5b0 : decide (500 < (((rd_T44 l0 x3_1).f2).size : Int)) = true := decide_eq_true c5
              have c5b1 : decide (500 < ((rd_T44 l0 x3_1).f2).size) = true := decide_eq_true (by omega)
              clear c5
              obtain rfl := Option.some.inj H
              have p101 : 0 ≤ (x3_1 : Int) := of_decide_eq_true (by first | (with_reducible assumption) | assumption)
              have q101 : x3_1 < (l0.length : Int) := of_decide_eq_true (by first | (with_reducible assumption) | assumption)
              obtain ⟨ad101, A101_4, c101_4, e101, hx101_0, hx101_1, hx101_2, hx101_3, hx101_4, hl101_4, hi101_4⟩ := at_T44 HR0.out x3_1 p101 q101
              cases e101
              have HR101_4 := Aside0.mk hi101_4
              have HC101_4 := Aside0.mk hl101_4
              clear hi101_4 hl101_4
              replace p101 := eq_true p101
              replace q101 := eq_true q101
              go_wp2
              go_ret
              exact ⟨by first | rfl | (simp; done) | (simp [*]; done), by repeat (first | exact Drawn0.refl _ | apply Drawn0.step)⟩
            · rw [if_neg c5] at H
              have c5b0 : decide (500 < (((rd_T44 l0 x3_1).f2).size : Int)) = false := decide_eq_false c5
              have c5b1 : decide (500 < ((rd_T44 l0 x3_1).f2).size) = false := decide_eq_false (by omega)
              clear c5
              by_cases c6 : (((rd_T44 l0 x3_1).f1).size : Int) > 500
              · rw [if_pos c6] at H
                have c6b0 : decide (500 < (((rd_T44 l0 x3_1).f1).size : Int)) = true := decide_eq_true c6
                have c6b1 : decide (500 < ((rd_T44 l0 x3_1).f1).size) = true := decide_eq_true (by omega)
                clear c6
                obtain rfl := Option.some.inj H
                have p101 : 0 ≤ (x3_1 : Int) := of_decide_eq_true (by first | (with_reducible assumption) | assumption)
                have q101 : x3_1 < (l0.length : Int) := of_decide_eq_true (by first | (with_reducible assumption) | assumption)
                obtain ⟨ad101, A101_4, c101_4, e101, hx101_0, hx101_1, hx101_2, hx101_3, hx101_4, hl101_4, hi101_4⟩ := at_T44 HR0.out x3_1 p101 q101
                cases e101
                have HR101_4 := Aside0.mk hi101_4
                have HC101_4 := Aside0.mk hl101_4
                clear hi101_4 hl101_4
                replace p101 := eq_true p101
                replace q101 := eq_true q101
                have p102 : 0 ≤ (x3_1 : Int) := of_decide_eq_true (by first | (with_reducible assumption) | assumption)
                have q102 : x3_1 < (l0.length : Int) := of_decide_eq_true (by first | (with_reducible assumption) | assumption)
                obtain ⟨ad102, A102_4, c102_4, e102, hx102_0, hx102_1, hx102_2, hx102_3, hx102_4, hl102_4, hi102_4⟩ := at_T44 HR0.out x3_1 p102 q102
                obtain rfl : ad101 = ad102 := (by injection e102)
                have HR102_4 := Aside0.mk hi102_4
                have HC102_4 := Aside0.mk hl102_4
                clear hi102_4 hl102_4
                replace p102 := eq_true p102
                replace q102 := eq_true q102
                have ea_ := Option.some.inj (hx101_4.symm.trans hx102_4)
                injection ea_ with ea_ en_ ec_
                subst ea_
                subst ec_
                clear en_
                go_wp2
                go_ret
                exact ⟨by first | rfl | (simp; done) | (simp [*]; done), by repeat (first | exact Drawn0.refl _ | apply Drawn0.step)⟩
              · rw [if_neg c6] at H
                have c6b0 : decide (500 < (((rd_T44 l0 x3_1).f1).size : Int)) = false := decide_eq_false c6
                have c6b1 : decide (500 < ((rd_T44 l0 x3_1).f1).size) = false := decide_eq_false (by omega)
                clear c6
                have H' := Aside0.mk H
                clear H
                have p101 : 0 ≤ (x3_1 : Int) := of_decide_eq_true (by first | (with_reducible assumption) | assumption)
                have q101 : x3_1 < (l0.length : Int) := of_decide_eq_true (by first | (with_reducible assumption) | assumption)
                obtain ⟨ad101, A101_4, c101_4, e101, hx101_0, hx101_1, hx101_2, hx101_3, hx101_4, hl101_4, hi101_4⟩ := at_T44 HR0.out x3_1 p101 q101
                cases e101
                have HR101_4 := Aside0.mk hi101_4
                have HC101_4 := Aside0.mk hl101_4
                clear hi101_4 hl101_4
                replace p101 := eq_true p101
                replace q101 := eq_true q101
                have p102 : 0 ≤ (x3_1 : Int) := of_decide_eq_true (by first | (with_reducible assumption) | assumption)
                have q102 : x3_1 < (l0.length : Int) := of_decide_eq_true (by first | (with_reducible assumption) | assumption)
                obtain ⟨ad102, A102_4, c102_4, e102, hx102_0, hx102_1, hx102_2, hx102_3, hx102_4, hl102_4, hi102_4⟩ := at_T44 HR0.out x3_1 p102 q102
                obtain rfl : ad101 = ad102 := (by injection e102)
                have HR102_4 := Aside0.mk hi102_4
                have HC102_4 := Aside0.mk hl102_4
                clear hi102_4 hl102_4
                replace p102 := eq_true p102
                replace q102 := eq_true q102
                have ea_ := Option.some.inj (hx101_4.symm.trans hx102_4)
                injection ea_ with ea_ en_ ec_
                subst ea_
                subst ec_
                clear en_
                go_wp2
                go_roundg k1
                case measure => have := HK1.out; omega
                case rel => exact ⟨(wrap64 (x3_1 + 1)), (by first | rfl | (simp; done) | (simp [*]; done)), H', ⟨by have := HK1.out; omega⟩, by repeat (first | exact Drawn0.refl _ | apply Drawn0.step)⟩
          · rw [if_neg c4] at H
            exact absurd H (by simp)
        · rw [if_neg c3] at H
          have c3b0 : decide (x3_1 < (l0.length : Int)) = false := decide_eq_false c3
          clear c3
          obtain rfl := Option.some.inj H
          go_wp2
          go_ret
          exact ⟨by first | rfl | (simp; done) | (simp [*]; done), by repeat (first | exact Drawn0.refl _ | apply Drawn0.step)⟩

/-- A state of type 41 at block g of W; what its slices lead to came in by w0. -/
def IsS41 (w0 W : World) (g : Nat) (f0 : Int) (f1 : List (S48)) (f2 : Bool) (f3 : Bool) (f4 : Int) : Prop := ∃ A1 c1, W.heap[g]? = some (.cells #[.int .i64 f0, .slice A1 f1.length c1, .bool f2, .bool f3, .int .i64 f4] 41 (0, 0)) ∧ w0.heap.size ≤ g ∧ Kd.C k48 w0 A1 f1.length f1
theorem IsS41.grown {w0 W : World} {g : Nat} {f0 : Int} {f1 : List (S48)} {f2 : Bool} {f3 : Bool} {f4 : Int} {W1 : World} {row : Option Nat} (h : IsS41 w0 W g f0 f1 f2 f3 f4) (hw : W.grownBy W1 row) (hne : some g ≠ row) : IsS41 w0 W1 g f0 f1 f2 f3 f4 := by
  obtain ⟨A1, c1, hb, hg, hr1⟩ := h
  exact ⟨A1, c1, blk_grown hb hw hne, hg, hr1⟩
theorem IsS41.own_neN {w0 W : World} {g : Nat} {f0 : Int} {f1 : List (S48)} {f2 : Bool} {f3 : Bool} {f4 : Int} {α : Type} {d : Kd α} {e : Nat} {base : Nat} {ok : Nat → Prop} {v : Value} {xs : List α} (h : IsS41 w0 W g f0 f1 f2 f3 f4) (ho : Kd.N d e W base ok v xs) (ht : e ≠ 41) : some g ≠ v.ownBlock := by
  obtain ⟨A1, c1, hb, hg, hr1⟩ := h
  exact Kd.N_ne ho hb ht
theorem IsS41.fresh {w0 W : World} {g : Nat} {f0 : Int} {f1 : List (S48)} {f2 : Bool} {f3 : Bool} {f4 : Int} (h : IsS41 w0 W g f0 f1 f2 f3 f4) : ∀ k, W.heap.size ≤ k → k ≠ g := by
  obtain ⟨A1, c1, hb, hg, hr1⟩ := h
  exact Kd.freshB hb
theorem IsS41.kept {w0 W : World} {g : Nat} {f0 : Int} {f1 : List (S48)} {f2 : Bool} {f3 : Bool} {f4 : Int} {W1 : World} {S : Nat → Prop} (h : IsS41 w0 W g f0 f1 f2 f3 f4) (hk : Kept W W1 S) (hne : ¬ S g) : IsS41 w0 W1 g f0 f1 f2 f3 f4 := by
  obtain ⟨A1, c1, hb, hg, hr1⟩ := h
  exact ⟨A1, c1, blk_kept hb hk hne, hg, hr1⟩
theorem IsS41.below {w0 W : World} {g : Nat} {f0 : Int} {f1 : List (S48)} {f2 : Bool} {f3 : Bool} {f4 : Int} {W1 : World} (h : IsS41 w0 W g f0 f1 f2 f3 f4) (hw : Below W.heap.size W W1) : IsS41 w0 W1 g f0 f1 f2 f3 f4 := h.grown (grown_of_below hw none) (by simp)
theorem IsS41.alloc {w0 W : World} {g : Nat} {f0 : Int} {f1 : List (S48)} {f2 : Bool} {f3 : Bool} {f4 : Int} (h : IsS41 w0 W g f0 f1 f2 f3 f4) (o : Obj) : IsS41 w0 (W.alloc o) g f0 f1 f2 f3 f4 := h.below (below_alloc (Below.refl _ _) o)
theorem IsS41.drewN {w0 W : World} {g : Nat} {f0 : Int} {f1 : List (S48)} {f2 : Bool} {f3 : Bool} {f4 : Int} (h : IsS41 w0 W g f0 f1 f2 f3 f4) (m : Nat) : IsS41 w0 (W.drewN m) g f0 f1 f2 f3 f4 := h
theorem IsS41.drew {w0 W : World} {g : Nat} {f0 : Int} {f1 : List (S48)} {f2 : Bool} {f3 : Bool} {f4 : Int} (h : IsS41 w0 W g f0 f1 f2 f3 f4) : IsS41 w0 W.drew g f0 f1 f2 f3 f4 := h
theorem IsS41.at_ {w0 W : World} {g : Nat} {f0 : Int} {f1 : List (S48)} {f2 : Bool} {f3 : Bool} {f4 : Int} {w' : World} {m : Nat} (hq : W.drewN m = w') (h : IsS41 w0 W g f0 f1 f2 f3 f4) : IsS41 w0 w' g f0 f1 f2 f3 f4 := by subst hq; exact IsS41.drewN h m
theorem IsS41.apart {w0 W : World} {g : Nat} {f0 : Int} {f1 : List (S48)} {f2 : Bool} {f3 : Bool} {f4 : Int} {α : Type} {d : Kd α} {e : Nat} {base : Nat} {ok : Nat → Prop} {v : Value} {xs : List α} (h : IsS41 w0 W g f0 f1 f2 f3 f4) (ho : d.R e W base ok v xs) (ht : ∀ q, q ∈ e :: d.E → q ≠ 41) : d.R e W base (fun k => ok k ∧ k ≠ g) v xs := by
  obtain ⟨A1, c1, hb, hg, hr1⟩ := h
  exact Kd.R_types ho hb ht
theorem IsS41.own_ne {w0 W : World} {g : Nat} {f0 : Int} {f1 : List (S48)} {f2 : Bool} {f3 : Bool} {f4 : Int} {α : Type} {d : Kd α} {e : Nat} {base : Nat} {ok : Nat → Prop} {v : Value} {xs : List α} (h : IsS41 w0 W g f0 f1 f2 f3 f4) (ho : d.R e W base ok v xs) (ht : e ≠ 41) : some g ≠ v.ownBlock := by
  obtain ⟨A1, c1, hb, hg, hr1⟩ := h
  exact Kd.R_ne ho hb ht
theorem IsS41.apartQ {w0 W : World} {g : Nat} {f0 : Int} {f1 : List (S48)} {f2 : Bool} {f3 : Bool} {f4 : Int} {α : Type} {d : Kd α} {e : Nat} {base : Nat} {ok : Nat → Prop} {v : Value} {xs : List α} (h : IsS41 w0 W g f0 f1 f2 f3 f4) (ho : d.Q e W base ok v xs) (ht : ∀ q, q ∈ e :: d.E → q ≠ 41) : d.Q e W base (fun k => ok k ∧ k ≠ g) v xs := by
  obtain ⟨A1, c1, hb, hg, hr1⟩ := h
  exact Kd.Q_types ho hb ht
theorem IsS41.own_neQ {w0 W : World} {g : Nat} {f0 : Int} {f1 : List (S48)} {f2 : Bool} {f3 : Bool} {f4 : Int} {α : Type} {d : Kd α} {e : Nat} {base : Nat} {ok : Nat → Prop} {v : Value} {xs : List α} (h : IsS41 w0 W g f0 f1 f2 f3 f4) (ho : d.Q e W base ok v xs) (ht : e ≠ 41) : some g ≠ v.ownBlock := by
  obtain ⟨A1, c1, hb, hg, hr1⟩ := h
  exact Kd.Q_ne ho hb ht
theorem IsS41.apartS {w0 W : World} {g : Nat} {f0 : Int} {f1 : List (S48)} {f2 : Bool} {f3 : Bool} {f4 : Int} {α : Type} {d : Kd α} {e : Nat} {base : Nat} {ok : Nat → Prop} {v : Value} {xs : List α} (h : IsS41 w0 W g f0 f1 f2 f3 f4) (ho : d.S e W base ok v xs) (ht : ∀ q, q ∈ e :: d.E → q ≠ 41) : d.S e W base (fun k => ok k ∧ k ≠ g) v xs := by
  obtain ⟨A1, c1, hb, hg, hr1⟩ := h
  exact Kd.S_types ho hb ht
theorem IsS41.own_neS {w0 W : World} {g : Nat} {f0 : Int} {f1 : List (S48)} {f2 : Bool} {f3 : Bool} {f4 : Int} {α : Type} {d : Kd α} {e : Nat} {base : Nat} {ok : Nat → Prop} {v : Value} {xs : List α} (h : IsS41 w0 W g f0 f1 f2 f3 f4) (ho : d.S e W base ok v xs) (ht : e ≠ 41) : some g ≠ v.ownBlock := by
  obtain ⟨A1, c1, hb, hg, hr1⟩ := h
  exact Kd.S_ne ho hb ht
theorem IsS41.lt {w0 W : World} {g : Nat} {f0 : Int} {f1 : List (S48)} {f2 : Bool} {f3 : Bool} {f4 : Int} (h : IsS41 w0 W g f0 f1 f2 f3 f4) : g < W.heap.size := by
  obtain ⟨A1, c1, hb, hg, hr1⟩ := h
  exact blk_lt hb
theorem IsS41.ge {w0 W : World} {g : Nat} {f0 : Int} {f1 : List (S48)} {f2 : Bool} {f3 : Bool} {f4 : Int} (h : IsS41 w0 W g f0 f1 f2 f3 f4) : w0.heap.size ≤ g := by
  obtain ⟨A1, c1, hb, hg, hr1⟩ := h
  exact hg
theorem IsS41.ne_blk {w0 W : World} {g : Nat} {f0 : Int} {f1 : List (S48)} {f2 : Bool} {f3 : Bool} {f4 : Int} {a : Nat} {cs : Array Value} {t : TypeId} {fr : Nat × Nat} (h : IsS41 w0 W g f0 f1 f2 f3 f4) (hb2 : W.heap[a]? = some (.cells cs t fr)) (ht : t ≠ 41) : g ≠ a := by
  obtain ⟨A1, c1, hb, hg, hr1⟩ := h
  rintro rfl
  rw [hb] at hb2
  injection hb2 with hb2
  injection hb2 with _ ht2
  exact ht ht2.symm
theorem IsS41.far {w0 W : World} {g : Nat} {f0 : Int} {f1 : List (S48)} {f2 : Bool} {f3 : Bool} {f4 : Int} {p : Addr} (h : IsS41 w0 W g f0 f1 f2 f3 f4) (hne : g ≠ p.block) (u : Value) : IsS41 w0 (W.setCell p u) g f0 f1 f2 f3 f4 := by
  obtain ⟨A1, c1, hb, hg, hr1⟩ := h
  exact ⟨A1, c1, blk_far hb hne u, hg, hr1⟩
theorem cellS41_0 {W : World} {g : Nat} {A1 : Option Addr} {c1 : Nat} {f0 : Int} {f1 : List (S48)} {f2 : Bool} {f3 : Bool} {f4 : Int} (h : W.heap[g]? = some (.cells #[.int .i64 f0, .slice A1 f1.length c1, .bool f2, .bool f3, .int .i64 f4] 41 (0, 0))) : W.cell? ⟨g, 0, none⟩ = some (.int .i64 f0) := (blk_cell h 0).trans rfl
theorem IsS41.set_0 {w0 W : World} {g : Nat} {f0 : Int} {f1 : List (S48)} {f2 : Bool} {f3 : Bool} {f4 : Int} (h : IsS41 w0 W g f0 f1 f2 f3 f4) (x : Int) : IsS41 w0 (W.setCell ⟨g, 0, none⟩ (.int .i64 x)) g x f1 f2 f3 f4 := by
  obtain ⟨A1, c1, hb, hg, hr1⟩ := h
  exact ⟨A1, c1, by simpa using blk_set hb 0 (.int .i64 x), hg, hr1⟩
theorem cellS41_1 {W : World} {g : Nat} {A1 : Option Addr} {c1 : Nat} {f0 : Int} {f1 : List (S48)} {f2 : Bool} {f3 : Bool} {f4 : Int} (h : W.heap[g]? = some (.cells #[.int .i64 f0, .slice A1 f1.length c1, .bool f2, .bool f3, .int .i64 f4] 41 (0, 0))) : W.cell? ⟨g, 1, none⟩ = some (.slice A1 f1.length c1) := (blk_cell h 1).trans rfl
theorem cellS41_2 {W : World} {g : Nat} {A1 : Option Addr} {c1 : Nat} {f0 : Int} {f1 : List (S48)} {f2 : Bool} {f3 : Bool} {f4 : Int} (h : W.heap[g]? = some (.cells #[.int .i64 f0, .slice A1 f1.length c1, .bool f2, .bool f3, .int .i64 f4] 41 (0, 0))) : W.cell? ⟨g, 2, none⟩ = some (.bool f2) := (blk_cell h 2).trans rfl
theorem IsS41.set_2 {w0 W : World} {g : Nat} {f0 : Int} {f1 : List (S48)} {f2 : Bool} {f3 : Bool} {f4 : Int} (h : IsS41 w0 W g f0 f1 f2 f3 f4) (x : Bool) : IsS41 w0 (W.setCell ⟨g, 2, none⟩ (.bool x)) g f0 f1 x f3 f4 := by
  obtain ⟨A1, c1, hb, hg, hr1⟩ := h
  exact ⟨A1, c1, by simpa using blk_set hb 2 (.bool x), hg, hr1⟩
theorem cellS41_3 {W : World} {g : Nat} {A1 : Option Addr} {c1 : Nat} {f0 : Int} {f1 : List (S48)} {f2 : Bool} {f3 : Bool} {f4 : Int} (h : W.heap[g]? = some (.cells #[.int .i64 f0, .slice A1 f1.length c1, .bool f2, .bool f3, .int .i64 f4] 41 (0, 0))) : W.cell? ⟨g, 3, none⟩ = some (.bool f3) := (blk_cell h 3).trans rfl
theorem IsS41.set_3 {w0 W : World} {g : Nat} {f0 : Int} {f1 : List (S48)} {f2 : Bool} {f3 : Bool} {f4 : Int} (h : IsS41 w0 W g f0 f1 f2 f3 f4) (x : Bool) : IsS41 w0 (W.setCell ⟨g, 3, none⟩ (.bool x)) g f0 f1 f2 x f4 := by
  obtain ⟨A1, c1, hb, hg, hr1⟩ := h
  exact ⟨A1, c1, by simpa using blk_set hb 3 (.bool x), hg, hr1⟩
theorem cellS41_4 {W : World} {g : Nat} {A1 : Option Addr} {c1 : Nat} {f0 : Int} {f1 : List (S48)} {f2 : Bool} {f3 : Bool} {f4 : Int} (h : W.heap[g]? = some (.cells #[.int .i64 f0, .slice A1 f1.length c1, .bool f2, .bool f3, .int .i64 f4] 41 (0, 0))) : W.cell? ⟨g, 4, none⟩ = some (.int .i64 f4) := (blk_cell h 4).trans rfl
theorem IsS41.set_4 {w0 W : World} {g : Nat} {f0 : Int} {f1 : List (S48)} {f2 : Bool} {f3 : Bool} {f4 : Int} (h : IsS41 w0 W g f0 f1 f2 f3 f4) (x : Int) : IsS41 w0 (W.setCell ⟨g, 4, none⟩ (.int .i64 x)) g f0 f1 f2 f3 x := by
  obtain ⟨A1, c1, hb, hg, hr1⟩ := h
  exact ⟨A1, c1, by simpa using blk_set hb 4 (.int .i64 x), hg, hr1⟩
theorem IsS41.new (w0 W : World) (A1 : Option Addr) (c1 : Nat) (f0 : Int) (f1 : List (S48)) (f2 : Bool) (f3 : Bool) (f4 : Int) (hB : Below w0.heap.size w0 W) (hr1 : Kd.C k48 w0 A1 f1.length f1) : IsS41 w0 (W.alloc (.cells #[.int .i64 f0, .slice A1 f1.length c1, .bool f2, .bool f3, .int .i64 f4] 41)) W.heap.size f0 f1 f2 f3 f4 := ⟨A1, c1, by simpa using heap_alloc_new W _, hB.size, hr1⟩

/-! ### palaverlaw09_model_find: function 20 -/
def palaverlaw09_model_find.l0 : Nat → ByteArray → Int → Int → List (S48) → Bool → Bool → Int → Option (Int × Int × Bool × Bool × Int)
  | 0, _, _, _, _, _, _, _ => none
  | k + 1, x1, x5, x1000, x1001, x1002, x1003, x1004 => if x5 < (x1001.length : Int) then (if 0 ≤ x5 then (if ((rd_T48 x1001 x5).f0).toList = x1.toList then (some (x5, x1000, x1002, x1003, x1004)) else (palaverlaw09_model_find.l0 k x1 (wrap64 (x5 + 1)) x1000 x1001 x1002 x1003 x1004)) else (none)) else (some ((-1), x1000, x1002, x1003, x1004))
def palaverlaw09_model_find.f (k : Nat) (s0_0 : Int) (s0_1 : List (S48)) (s0_2 : Bool) (s0_3 : Bool) (s0_4 : Int) (a1 : ByteArray) : Option (Int × Int × Bool × Bool × Int) := palaverlaw09_model_find.l0 k a1 0 s0_0 s0_1 s0_2 s0_3 s0_4
theorem palaverlaw09_model_find.mono_l : ∀ k, (∀ y0 y1 y2 y3 y4 y5 y6, LeO (palaverlaw09_model_find.l0 k y0 y1 y2 y3 y4 y5 y6) (palaverlaw09_model_find.l0 (k + 1) y0 y1 y2 y3 y4 y5 y6))
  | 0 => fun _ _ _ _ _ _ _ r h => by simp [palaverlaw09_model_find.l0] at h
  | k + 1 => by
    have ih0 := palaverlaw09_model_find.mono_l k
    · intro y0 y1 y2 y3 y4 y5 y6
      unfold palaverlaw09_model_find.l0
      repeat' first
      | (with_reducible exact ih0 _ _ _ _ _ _ _)
      | (with_reducible exact LeO.refl _)
      | (with_reducible exact LeO.none _)
      | (with_reducible refine LeO.ite ?_ ?_)
      | (with_reducible refine LeO.bind ?_ (fun _ => ?_))
      | exact ih0 _ _ _ _ _ _ _
      | exact LeO.none _
      | refine LeO.ite ?_ ?_
      | refine LeO.bind ?_ (fun _ => ?_)
theorem palaverlaw09_model_find.mono : ∀ a0 a1 a2 a3 a4 a5 k, LeO (palaverlaw09_model_find.f k a0 a1 a2 a3 a4 a5) (palaverlaw09_model_find.f (k + 1) a0 a1 a2 a3 a4 a5) := by
  intro a0 a1 a2 a3 a4 a5 k
  have ih0 := palaverlaw09_model_find.mono_l k
  unfold palaverlaw09_model_find.f
  repeat' first
      | (with_reducible exact ih0 _ _ _ _ _ _ _)
      | (with_reducible exact LeO.refl _)
      | (with_reducible exact LeO.none _)
      | (with_reducible refine LeO.ite ?_ ?_)
      | (with_reducible refine LeO.bind ?_ (fun _ => ?_))
      | exact ih0 _ _ _ _ _ _ _
      | exact LeO.none _
      | refine LeO.ite ?_ ?_
      | refine LeO.bind ?_ (fun _ => ?_)
set_option maxHeartbeats 8000000 in
set_option maxRecDepth 100000 in
theorem palaverlaw09_model_find.calls (k : Nat) (g : Nat) (s0_0 : Int) (s0_1 : List (S48)) (s0_2 : Bool) (s0_3 : Bool) (s0_4 : Int) (a1 : ByteArray) (r1 : Int) (r2 : Int) (r3 : Bool) (r4 : Bool) (r5 : Int) (w0 w : World) (hI : IsS41 w0 w g s0_0 s0_1 s0_2 s0_3 s0_4) (hB : Below w0.heap.size w0 w) (h : palaverlaw09_model_find.f k s0_0 s0_1 s0_2 s0_3 s0_4 a1 = some (r1, r2, r3, r4, r5)) :
    Calls Try.prog 20 #[.pointer (some ⟨g, 0, none⟩), .string a1] w fun e w' => e = .returned (.int .i64 r1) ∧ IsS41 w0 w' g r2 s0_1 r3 r4 r5 ∧ Below w0.heap.size w0 w' ∧ KeepBut w w' g none := by
  have HI0 := Aside0.mk hI
  have HK := Aside0.mk (KeepBut.refl w g none)
  have HL := Aside0.mk hB.size
  clear hI
  have HW0 := Aside0.mk hB.size
  have HB := Aside0.mk hB
  clear hB
  have H : (palaverlaw09_model_find.l0 k a1 0 s0_0 s0_1 s0_2 s0_3 s0_4) = some (r1, r2, r3, r4, r5) := h
  clear h
  have H' := Aside0.mk H
  clear H
  go_enter Try.func20, Try.ntmps20
  go_wp2
  go_loopg [5] k (fun kq v5 w' => ∃ (x5_1 : Int), v5 = .int .i64 x5_1 ∧ Aside0 (palaverlaw09_model_find.l0 kq a1 x5_1 s0_0 s0_1 s0_2 s0_3 s0_4 = some (r1, r2, r3, r4, r5)) ∧ Aside0 (kq ≤ k) ∧ Aside0 (IsS41 w0 w' g s0_0 s0_1 s0_2 s0_3 s0_4) ∧ Aside0 (KeepBut w w' g none) ∧ Aside0 (Below w0.heap.size w0 w'))
  case atStart => exact ⟨(0), (by first | rfl | (simp; done) | (simp [*]; done)), H', ⟨Nat.le_refl _⟩, ⟨by repeat (first | (with_reducible first | exact HI0.out | apply IsS41.alloc | apply IsS41.drewN | apply IsS41.drew | apply IsS41.set_0 | apply IsS41.set_2 | apply IsS41.set_3 | apply IsS41.set_4) | exact HI0.out)⟩, ⟨by repeat (first | (with_reducible first | exact HK.out | apply KeepBut.set_ | apply keep_drewN | apply keep_drew | apply keep_alloc) | exact HK.out)⟩, ⟨by repeat (first | (with_reducible first | exact HB.out | apply below_alloc | apply pw_below_drewN | apply below_drew1 | refine below_set ?_ (IsS41.ge HI0.out)) | exact HB.out)⟩⟩
  case round =>
    clear H'
    try clear c2
    try clear p2
    obtain ⟨x5_1, rfl, HA, HK1, HI0, HK, HB⟩ := hrel
    cases gk with
    | zero => exact absurd HA.out (by simp [palaverlaw09_model_find.l0])
    | succ k1 =>
      have H := HA.out
      clear HA
      simp only [palaverlaw09_model_find.l0] at H
      by_cases c3 : x5_1 < (s0_1.length : Int)
      · rw [if_pos c3] at H
        have c3b0 : decide (x5_1 < (s0_1.length : Int)) = true := decide_eq_true c3
        clear c3
        by_cases c4 : 0 ≤ x5_1
        · rw [if_pos c4] at H
          have c4b0 : decide (0 ≤ x5_1) = true := decide_eq_true c4
          clear c4
          by_cases c5 : ((rd_T48 s0_1 x5_1).f0).toList = a1.toList
          · rw [if_pos c5] at H
            have c5b0 : (((rd_T48 s0_1 x5_1).f0).toList == a1.toList) = true := beq_iff_eq.mpr c5
            have c5b1 : (((rd_T48 s0_1 x5_1).f0).toList != a1.toList) = false := bne_eq_false_iff_eq.mpr c5
            clear c5
            simp only [Option.some.injEq, Prod.mk.injEq] at H
            obtain ⟨rfl, rfl, rfl, rfl, rfl⟩ := H
            obtain ⟨ASz6_1, cSz6_1, HGz6, hgz6, HSz6_1⟩ := HI0.out
            have hcz6_0 := cellS41_0 HGz6
            have hcz6_1 := cellS41_1 HGz6
            have hcz6_2 := cellS41_2 HGz6
            have hcz6_3 := cellS41_3 HGz6
            have hcz6_4 := cellS41_4 HGz6
            have hfz6_0 := blk_frozen HGz6 0
            have hfz6_2 := blk_frozen HGz6 2
            have hfz6_3 := blk_frozen HGz6 3
            have hfz6_4 := blk_frozen HGz6 4
            clear HGz6 hgz6
            have p103 : 0 ≤ (x5_1 : Int) := of_decide_eq_true (by first | (with_reducible assumption) | assumption)
            have q103 : x5_1 < (s0_1.length : Int) := of_decide_eq_true (by first | (with_reducible assumption) | assumption)
            obtain ⟨ad103, e103, hx103_0, hx103_1, hx103_2⟩ := at_T48 HSz6_1 x5_1 p103 q103
            cases e103
            replace hx103_0 := pw_cell_below HB.out hx103_0
            replace hx103_1 := pw_cell_below HB.out hx103_1
            replace hx103_2 := pw_cell_below HB.out hx103_2
            replace p103 := eq_true p103
            replace q103 := eq_true q103
            go_wp2
            go_ret
            exact ⟨by first | rfl | (simp [errW_none, errW_some] <;> rfl) | (simp [*, errW_none, errW_some] <;> rfl), by repeat (first | (with_reducible first | exact HI0.out | apply IsS41.alloc | apply IsS41.drewN | apply IsS41.drew | apply IsS41.set_0 | apply IsS41.set_2 | apply IsS41.set_3 | apply IsS41.set_4) | exact HI0.out), by repeat (first | (with_reducible first | exact HB.out | apply below_alloc | apply pw_below_drewN | apply below_drew1 | refine below_set ?_ (IsS41.ge HI0.out)) | exact HB.out), by repeat (first | (with_reducible first | exact HK.out | apply KeepBut.set_ | apply keep_drewN | apply keep_drew | apply keep_alloc) | exact HK.out)⟩
          · rw [if_neg c5] at H
            have c5b0 : (((rd_T48 s0_1 x5_1).f0).toList == a1.toList) = false := beq_eq_false_iff_ne.mpr c5
            have c5b1 : (((rd_T48 s0_1 x5_1).f0).toList != a1.toList) = true := bne_iff_ne.mpr c5
            have H' := Aside0.mk H
            clear H
            obtain ⟨ASz7_1, cSz7_1, HGz7, hgz7, HSz7_1⟩ := HI0.out
            have hcz7_0 := cellS41_0 HGz7
            have hcz7_1 := cellS41_1 HGz7
            have hcz7_2 := cellS41_2 HGz7
            have hcz7_3 := cellS41_3 HGz7
            have hcz7_4 := cellS41_4 HGz7
            have hfz7_0 := blk_frozen HGz7 0
            have hfz7_2 := blk_frozen HGz7 2
            have hfz7_3 := blk_frozen HGz7 3
            have hfz7_4 := blk_frozen HGz7 4
            clear HGz7 hgz7
            have p103 : 0 ≤ (x5_1 : Int) := of_decide_eq_true (by first | (with_reducible assumption) | assumption)
            have q103 : x5_1 < (s0_1.length : Int) := of_decide_eq_true (by first | (with_reducible assumption) | assumption)
            obtain ⟨ad103, e103, hx103_0, hx103_1, hx103_2⟩ := at_T48 HSz7_1 x5_1 p103 q103
            cases e103
            replace hx103_0 := pw_cell_below HB.out hx103_0
            replace hx103_1 := pw_cell_below HB.out hx103_1
            replace hx103_2 := pw_cell_below HB.out hx103_2
            replace p103 := eq_true p103
            replace q103 := eq_true q103
            go_wp2
            go_roundg k1
            case measure => have := HK1.out; omega
            case rel => exact ⟨(wrap64 (x5_1 + 1)), (by first | rfl | (simp; done) | (simp [*]; done)), H', ⟨by have := HK1.out; omega⟩, ⟨by repeat (first | (with_reducible first | exact HI0.out | apply IsS41.alloc | apply IsS41.drewN | apply IsS41.drew | apply IsS41.set_0 | apply IsS41.set_2 | apply IsS41.set_3 | apply IsS41.set_4) | exact HI0.out)⟩, ⟨by repeat (first | (with_reducible first | exact HK.out | apply KeepBut.set_ | apply keep_drewN | apply keep_drew | apply keep_alloc) | exact HK.out)⟩, ⟨by repeat (first | (with_reducible first | exact HB.out | apply below_alloc | apply pw_below_drewN | apply below_drew1 | refine below_set ?_ (IsS41.ge HI0.out)) | exact HB.out)⟩⟩
        · rw [if_neg c4] at H
          exact absurd H (by simp)
      · rw [if_neg c3] at H
        have c3b0 : decide (x5_1 < (s0_1.length : Int)) = false := decide_eq_false c3
        clear c3
        simp only [Option.some.injEq, Prod.mk.injEq] at H
        obtain ⟨rfl, rfl, rfl, rfl, rfl⟩ := H
        obtain ⟨ASz8_1, cSz8_1, HGz8, hgz8, HSz8_1⟩ := HI0.out
        have hcz8_0 := cellS41_0 HGz8
        have hcz8_1 := cellS41_1 HGz8
        have hcz8_2 := cellS41_2 HGz8
        have hcz8_3 := cellS41_3 HGz8
        have hcz8_4 := cellS41_4 HGz8
        have hfz8_0 := blk_frozen HGz8 0
        have hfz8_2 := blk_frozen HGz8 2
        have hfz8_3 := blk_frozen HGz8 3
        have hfz8_4 := blk_frozen HGz8 4
        clear HGz8 hgz8
        go_wp2
        go_ret
        exact ⟨by first | rfl | (simp [errW_none, errW_some] <;> rfl) | (simp [*, errW_none, errW_some] <;> rfl), by repeat (first | (with_reducible first | exact HI0.out | apply IsS41.alloc | apply IsS41.drewN | apply IsS41.drew | apply IsS41.set_0 | apply IsS41.set_2 | apply IsS41.set_3 | apply IsS41.set_4) | exact HI0.out), by repeat (first | (with_reducible first | exact HB.out | apply below_alloc | apply pw_below_drewN | apply below_drew1 | refine below_set ?_ (IsS41.ge HI0.out)) | exact HB.out), by repeat (first | (with_reducible first | exact HK.out | apply KeepBut.set_ | apply keep_drewN | apply keep_drew | apply keep_alloc) | exact HK.out)⟩

/-! ### palaverlaw09_model_used: function 27 -/
def palaverlaw09_model_used.l0 : Nat → Int → Int → Int → List (S48) → Bool → Bool → Int → Option (Int × Int × Bool × Bool × Int)
  | 0, _, _, _, _, _, _, _ => none
  | k + 1, x3, x4, x1000, x1001, x1002, x1003, x1004 => if x4 < (x1001.length : Int) then (if 0 ≤ x4 then (palaverlaw09_model_used.l0 k (wrap64 (x3 + (((rd_T48 x1001 x4).f1).size : Int))) (wrap64 (x4 + 1)) x1000 x1001 x1002 x1003 x1004) else (none)) else (some (x3, x1000, x1002, x1003, x1004))
def palaverlaw09_model_used.f (k : Nat) (s0_0 : Int) (s0_1 : List (S48)) (s0_2 : Bool) (s0_3 : Bool) (s0_4 : Int) : Option (Int × Int × Bool × Bool × Int) := palaverlaw09_model_used.l0 k 0 0 s0_0 s0_1 s0_2 s0_3 s0_4
theorem palaverlaw09_model_used.mono_l : ∀ k, (∀ y0 y1 y2 y3 y4 y5 y6, LeO (palaverlaw09_model_used.l0 k y0 y1 y2 y3 y4 y5 y6) (palaverlaw09_model_used.l0 (k + 1) y0 y1 y2 y3 y4 y5 y6))
  | 0 => fun _ _ _ _ _ _ _ r h => by simp [palaverlaw09_model_used.l0] at h
  | k + 1 => by
    have ih0 := palaverlaw09_model_used.mono_l k
    · intro y0 y1 y2 y3 y4 y5 y6
      unfold palaverlaw09_model_used.l0
      repeat' first
      | (with_reducible exact ih0 _ _ _ _ _ _ _)
      | (with_reducible exact LeO.refl _)
      | (with_reducible exact LeO.none _)
      | (with_reducible refine LeO.ite ?_ ?_)
      | (with_reducible refine LeO.bind ?_ (fun _ => ?_))
      | exact ih0 _ _ _ _ _ _ _
      | exact LeO.none _
      | refine LeO.ite ?_ ?_
      | refine LeO.bind ?_ (fun _ => ?_)
theorem palaverlaw09_model_used.mono : ∀ a0 a1 a2 a3 a4 k, LeO (palaverlaw09_model_used.f k a0 a1 a2 a3 a4) (palaverlaw09_model_used.f (k + 1) a0 a1 a2 a3 a4) := by
  intro a0 a1 a2 a3 a4 k
  have ih0 := palaverlaw09_model_used.mono_l k
  unfold palaverlaw09_model_used.f
  repeat' first
      | (with_reducible exact ih0 _ _ _ _ _ _ _)
      | (with_reducible exact LeO.refl _)
      | (with_reducible exact LeO.none _)
      | (with_reducible refine LeO.ite ?_ ?_)
      | (with_reducible refine LeO.bind ?_ (fun _ => ?_))
      | exact ih0 _ _ _ _ _ _ _
      | exact LeO.none _
      | refine LeO.ite ?_ ?_
      | refine LeO.bind ?_ (fun _ => ?_)
set_option maxHeartbeats 8000000 in
set_option maxRecDepth 100000 in
theorem palaverlaw09_model_used.calls (k : Nat) (g : Nat) (s0_0 : Int) (s0_1 : List (S48)) (s0_2 : Bool) (s0_3 : Bool) (s0_4 : Int) (r1 : Int) (r2 : Int) (r3 : Bool) (r4 : Bool) (r5 : Int) (w0 w : World) (hI : IsS41 w0 w g s0_0 s0_1 s0_2 s0_3 s0_4) (hB : Below w0.heap.size w0 w) (h : palaverlaw09_model_used.f k s0_0 s0_1 s0_2 s0_3 s0_4 = some (r1, r2, r3, r4, r5)) :
    Calls Try.prog 27 #[.pointer (some ⟨g, 0, none⟩)] w fun e w' => e = .returned (.int .i64 r1) ∧ IsS41 w0 w' g r2 s0_1 r3 r4 r5 ∧ Below w0.heap.size w0 w' ∧ KeepBut w w' g none := by
  have HI0 := Aside0.mk hI
  have HK := Aside0.mk (KeepBut.refl w g none)
  have HL := Aside0.mk hB.size
  clear hI
  have HW0 := Aside0.mk hB.size
  have HB := Aside0.mk hB
  clear hB
  have H : (palaverlaw09_model_used.l0 k 0 0 s0_0 s0_1 s0_2 s0_3 s0_4) = some (r1, r2, r3, r4, r5) := h
  clear h
  have H' := Aside0.mk H
  clear H
  go_enter Try.func27, Try.ntmps27
  go_wp2
  go_loopg [3, 4] k (fun kq v3 v4 w' => ∃ (x3_1 : Int) (x4_1 : Int), v3 = .int .i64 x3_1 ∧ v4 = .int .i64 x4_1 ∧ Aside0 (palaverlaw09_model_used.l0 kq x3_1 x4_1 s0_0 s0_1 s0_2 s0_3 s0_4 = some (r1, r2, r3, r4, r5)) ∧ Aside0 (kq ≤ k) ∧ Aside0 (IsS41 w0 w' g s0_0 s0_1 s0_2 s0_3 s0_4) ∧ Aside0 (KeepBut w w' g none) ∧ Aside0 (Below w0.heap.size w0 w'))
  case atStart => exact ⟨(0), (0), (by first | rfl | (simp; done) | (simp [*]; done)), (by first | rfl | (simp; done) | (simp [*]; done)), H', ⟨Nat.le_refl _⟩, ⟨by repeat (first | (with_reducible first | exact HI0.out | apply IsS41.alloc | apply IsS41.drewN | apply IsS41.drew | apply IsS41.set_0 | apply IsS41.set_2 | apply IsS41.set_3 | apply IsS41.set_4) | exact HI0.out)⟩, ⟨by repeat (first | (with_reducible first | exact HK.out | apply KeepBut.set_ | apply keep_drewN | apply keep_drew | apply keep_alloc) | exact HK.out)⟩, ⟨by repeat (first | (with_reducible first | exact HB.out | apply below_alloc | apply pw_below_drewN | apply below_drew1 | refine below_set ?_ (IsS41.ge HI0.out)) | exact HB.out)⟩⟩
  case round =>
    clear H'
    obtain ⟨x3_1, x4_1, rfl, rfl, HA, HK1, HI0, HK, HB⟩ := hrel
    cases gk with
    | zero => exact absurd HA.out (by simp [palaverlaw09_model_used.l0])
    | succ k1 =>
      have H := HA.out
      clear HA
      simp only [palaverlaw09_model_used.l0] at H
      by_cases c2 : x4_1 < (s0_1.length : Int)
      · rw [if_pos c2] at H
        have c2b0 : decide (x4_1 < (s0_1.length : Int)) = true := decide_eq_true c2
        clear c2
        by_cases c3 : 0 ≤ x4_1
        · rw [if_pos c3] at H
          have c3b0 : decide (0 ≤ x4_1) = true := decide_eq_true c3
          clear c3
          have H' := Aside0.mk H
          clear H
          obtain ⟨ASz4_1, cSz4_1, HGz4, hgz4, HSz4_1⟩ := HI0.out
          have hcz4_0 := cellS41_0 HGz4
          have hcz4_1 := cellS41_1 HGz4
          have hcz4_2 := cellS41_2 HGz4
          have hcz4_3 := cellS41_3 HGz4
          have hcz4_4 := cellS41_4 HGz4
          have hfz4_0 := blk_frozen HGz4 0
          have hfz4_2 := blk_frozen HGz4 2
          have hfz4_3 := blk_frozen HGz4 3
          have hfz4_4 := blk_frozen HGz4 4
          clear HGz4 hgz4
          have p104 : 0 ≤ (x4_1 : Int) := of_decide_eq_true (by first | (with_reducible assumption) | assumption)
          have q104 : x4_1 < (s0_1.length : Int) := of_decide_eq_true (by first | (with_reducible assumption) | assumption)
          obtain ⟨ad104, e104, hx104_0, hx104_1, hx104_2⟩ := at_T48 HSz4_1 x4_1 p104 q104
          cases e104
          replace hx104_0 := pw_cell_below HB.out hx104_0
          replace hx104_1 := pw_cell_below HB.out hx104_1
          replace hx104_2 := pw_cell_below HB.out hx104_2
          replace p104 := eq_true p104
          replace q104 := eq_true q104
          go_wp2
          go_roundg k1
          case measure => have := HK1.out; omega
          case rel => exact ⟨(wrap64 (x3_1 + (((rd_T48 s0_1 x4_1).f1).size : Int))), (wrap64 (x4_1 + 1)), (by first | rfl | (simp; done) | (simp [*]; done)), (by first | rfl | (simp; done) | (simp [*]; done)), H', ⟨by have := HK1.out; omega⟩, ⟨by repeat (first | (with_reducible first | exact HI0.out | apply IsS41.alloc | apply IsS41.drewN | apply IsS41.drew | apply IsS41.set_0 | apply IsS41.set_2 | apply IsS41.set_3 | apply IsS41.set_4) | exact HI0.out)⟩, ⟨by repeat (first | (with_reducible first | exact HK.out | apply KeepBut.set_ | apply keep_drewN | apply keep_drew | apply keep_alloc) | exact HK.out)⟩, ⟨by repeat (first | (with_reducible first | exact HB.out | apply below_alloc | apply pw_below_drewN | apply below_drew1 | refine below_set ?_ (IsS41.ge HI0.out)) | exact HB.out)⟩⟩
        · rw [if_neg c3] at H
          exact absurd H (by simp)
      · rw [if_neg c2] at H
        have c2b0 : decide (x4_1 < (s0_1.length : Int)) = false := decide_eq_false c2
        clear c2
        simp only [Option.some.injEq, Prod.mk.injEq] at H
        obtain ⟨rfl, rfl, rfl, rfl, rfl⟩ := H
        obtain ⟨ASz5_1, cSz5_1, HGz5, hgz5, HSz5_1⟩ := HI0.out
        have hcz5_0 := cellS41_0 HGz5
        have hcz5_1 := cellS41_1 HGz5
        have hcz5_2 := cellS41_2 HGz5
        have hcz5_3 := cellS41_3 HGz5
        have hcz5_4 := cellS41_4 HGz5
        have hfz5_0 := blk_frozen HGz5 0
        have hfz5_2 := blk_frozen HGz5 2
        have hfz5_3 := blk_frozen HGz5 3
        have hfz5_4 := blk_frozen HGz5 4
        clear HGz5 hgz5
        go_wp2
        go_ret
        exact ⟨by first | rfl | (simp [errW_none, errW_some] <;> rfl) | (simp [*, errW_none, errW_some] <;> rfl), by repeat (first | (with_reducible first | exact HI0.out | apply IsS41.alloc | apply IsS41.drewN | apply IsS41.drew | apply IsS41.set_0 | apply IsS41.set_2 | apply IsS41.set_3 | apply IsS41.set_4) | exact HI0.out), by repeat (first | (with_reducible first | exact HB.out | apply below_alloc | apply pw_below_drewN | apply below_drew1 | refine below_set ?_ (IsS41.ge HI0.out)) | exact HB.out), by repeat (first | (with_reducible first | exact HK.out | apply KeepBut.set_ | apply keep_drewN | apply keep_drew | apply keep_alloc) | exact HK.out)⟩

end Go.Proofs.Ytdogmcpmlglkfaa.PRef
