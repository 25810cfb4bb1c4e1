/- palaverlaw09.great on the printed function; an act's cells in a slice of acts. -/
import Derived.Test.YtdogmcpmlglkfaaDO
import Derived.Test.YtdogmcpmlglkfaaOrd
namespace Go.Proofs.Ytdogmcpmlglkfaa
open Go.RowKit Go.Proofs.YtdogmcpmlglkfaaW.PrintWords Go.Proofs.Ytdogmcpmlglkfaa.PRef

def small9 (l : List Act9) : Prop := l.length ≤ 60 ∧ ∀ x ∈ l, x.f2.size ≤ 500 ∧ x.f1.size ≤ 500

theorem rdA_at {xs : List Act9} {i : Nat} (h : i < xs.length) : rd_T44 xs (i : Int) = xs[i] := by
  unfold rd_T44
  rw [show ((i : Int)).toNat = i by omega, List.getD_eq_getElem?_getD, List.getElem?_eq_getElem h]; rfl

theorem great9_ev (l : List Act9) : ∃ k r, palaverlaw09_great.f k l = some r ∧ (r = false → small9 l) := by
  by_cases hl : l.length ≤ 60
  · have key : ∀ d i, i ≤ l.length → l.length - i = d → (∀ j (hj : j < l.length), j < i → l[j].f2.size ≤ 500 ∧ l[j].f1.size ≤ 500) → ∃ r, Ev (fun k => palaverlaw09_great.l0 k l (i : Int)) r ∧ (r = false → small9 l) := by
      intro d
      induction d with
      | zero =>
        intro i hi hd hb
        refine ⟨false, Ev.step (f := fun _ => some false) (fun k => ?_) (Ev.now _), fun _ => ⟨hl, fun x hx => ?_⟩⟩
        · simp only [palaverlaw09_great.l0]; rw [if_neg (by omega)]
        · obtain ⟨j, hj, rfl⟩ := List.getElem_of_mem hx
          exact hb j hj (by omega)
      | succ d ih =>
        intro i hi hd hb
        have hlt : i < l.length := by omega
        by_cases h2 : l[i].f2.size ≤ 500
        · by_cases h1 : l[i].f1.size ≤ 500
          · obtain ⟨r, e1, e2⟩ := ih (i + 1) (by omega) (by omega) (fun j hj hji => by
              by_cases e : j = i
              · subst e; exact ⟨h2, h1⟩
              · exact hb j hj (by omega))
            refine ⟨r, Ev.step (fun k => ?_) e1, e2⟩
            simp only [palaverlaw09_great.l0]; rw [if_pos (by omega), if_pos (by omega), rdA_at hlt, if_neg (by omega), if_neg (by omega), wrapS (by omega)]
          · refine ⟨true, Ev.step (f := fun _ => some true) (fun k => ?_) (Ev.now _), fun h => by cases h⟩
            simp only [palaverlaw09_great.l0]; rw [if_pos (by omega), if_pos (by omega), rdA_at hlt, if_neg (by omega), if_pos (by omega)]
        · refine ⟨true, Ev.step (f := fun _ => some true) (fun k => ?_) (Ev.now _), fun h => by cases h⟩
          simp only [palaverlaw09_great.l0]; rw [if_pos (by omega), if_pos (by omega), rdA_at hlt, if_pos (by omega)]
    obtain ⟨r, h1, h2⟩ := key l.length 0 (Nat.zero_le _) rfl (fun j _ h => by omega)
    obtain ⟨k, hk⟩ := h1.rounds
    refine ⟨k, r, ?_, h2⟩
    unfold palaverlaw09_great.f
    rw [if_neg (by omega)]
    exact hk
  · refine ⟨0, true, ?_, fun h => by cases h⟩
    unfold palaverlaw09_great.f
    rw [if_pos (by omega)]

theorem great9_calls {w : World} {A : Option Addr} {c : Nat} {l : List Act9} (hr : Kd.C k44 w A l.length l) (hc : l.length ≤ c) :
    ∃ r : Bool, (r = false → small9 l) ∧ Calls Try.prog 17 #[.slice A l.length c] w fun e w' => e = .returned (.bool r) ∧ Drawn0 w w' := by
  obtain ⟨k, r, h1, h2⟩ := great9_ev l
  exact ⟨r, h2, palaverlaw09_great.calls k A c l r w hr hc h1⟩

theorem act9_at {w : World} {A : Option Addr} {n : Nat} {l : List Act9} (h : Kd.C k44 w A n l) {i : Nat} (hi : i < l.length) : ∃ ad A4 c4, A = some ad ∧ (ad.add (i * 5)).block < w.heap.size ∧
    w.cell? ⟨(ad.add (i * 5)).block, (ad.add (i * 5)).off + 1, none⟩ = some (.string l[i].f1) ∧ w.cell? ⟨(ad.add (i * 5)).block, (ad.add (i * 5)).off + 2, none⟩ = some (.string l[i].f2) ∧
    w.cell? ⟨(ad.add (i * 5)).block, (ad.add (i * 5)).off + 3, none⟩ = some (.int .i64 l[i].f3) ∧
    w.cell? ⟨(ad.add (i * 5)).block, (ad.add (i * 5)).off + 4, none⟩ = some (.slice A4 l[i].f4.length c4) ∧ w.cell? (ad.add (i * 5)) = some (.int .i64 l[i].f0) ∧ l[i].f4.length ≤ c4 ∧ Kd.C (Kd.int .i64) w A4 l[i].f4.length l[i].f4 := by
  have hn := h.1
  obtain ⟨ad, A4, c4, e, h0, h1, h2, h3, h4, h5, h6⟩ := at_T44 h (i : Int) (by omega) (by omega)
  rw [rdA_at hi] at *
  simp only [Int.toNat_natCast] at *
  exact ⟨ad, A4, c4, e, World.block_lt_of_cell? _ _ h0, h1, h2, h3, h4, h0, h5, h6⟩

end Go.Proofs.Ytdogmcpmlglkfaa
