/- Plain laws on the printed functions of palaverlaw13. -/
import Derived.Test.YtaecjkffemmpcaaPur
namespace Go.Proofs.Ytaecjkffemmpcaa
open Go.RowKit Go.Proofs.YtaecjkffemmpcaaW.PrintWords Go.Proofs.Ytaecjkffemmpcaa.PRef

abbrev ActS := S32
abbrev OneS := S44

def small13 (l : List ActS) : Prop := l.length ≤ 60 ∧ ∀ x ∈ l, x.f3.length ≤ 60

theorem rdT_at {xs : List ActS} {i : Nat} (h : i < xs.length) : rd_T32 xs (i : Int) = xs[i] := by
  unfold rd_T32
  rw [show ((i : Int)).toNat = i by omega, List.getD_eq_getElem?_getD, List.getElem?_eq_getElem h]; rfl

theorem rdO_at {xs : List OneS} {i : Nat} (h : i < xs.length) : rd_T44 xs (i : Int) = xs[i] := by
  unfold rd_T44
  rw [show ((i : Int)).toNat = i by omega, List.getD_eq_getElem?_getD, List.getElem?_eq_getElem h]; rfl

theorem great_ev (l : List ActS) : ∃ k r, palaverlaw13_great.f k l = some r ∧ (r = false → small13 l) := by
  by_cases hl : l.length ≤ 60
  · have key : ∀ d i, i ≤ l.length → l.length - i = d → (∀ j (hj : j < l.length), j < i → l[j].f3.length ≤ 60) → ∃ r, Ev (fun k => palaverlaw13_great.l0 k l (i : Int)) r ∧ (r = false → small13 l) := by
      intro d
      induction d with
      | zero =>
        intro i hi hd hb
        refine ⟨false, Ev.step (f := fun _ => some false) (fun k => ?_) (Ev.now _), fun _ => ⟨hl, fun x hx => ?_⟩⟩
        · simp only [palaverlaw13_great.l0]; rw [if_neg (by omega)]
        · obtain ⟨j, hj, rfl⟩ := List.getElem_of_mem hx
          exact hb j hj (by omega)
      | succ d ih =>
        intro i hi hd hb
        have hlt : i < l.length := by omega
        by_cases he : l[i].f3.length ≤ 60
        · obtain ⟨r, h1, h2⟩ := ih (i + 1) (by omega) (by omega) (fun j hj hji => by
            by_cases e : j = i
            · subst e; exact he
            · exact hb j hj (by omega))
          refine ⟨r, Ev.step (fun k => ?_) h1, h2⟩
          simp only [palaverlaw13_great.l0]; rw [if_pos (by omega), if_pos (by omega), rdT_at hlt, if_neg (by omega), wrapS (by omega)]
        · refine ⟨true, Ev.step (f := fun _ => some true) (fun k => ?_) (Ev.now _), fun h => by cases h⟩
          simp only [palaverlaw13_great.l0]; rw [if_pos (by omega), if_pos (by omega), rdT_at hlt, if_pos (by omega)]
    obtain ⟨r, h1, h2⟩ := key l.length 0 (Nat.zero_le _) rfl (fun j _ h => by omega)
    obtain ⟨k, hk⟩ := h1.rounds
    refine ⟨k, r, ?_, h2⟩
    unfold palaverlaw13_great.f
    rw [if_neg (by omega)]
    exact hk
  · refine ⟨0, true, ?_, fun h => by cases h⟩
    unfold palaverlaw13_great.f
    rw [if_pos (by omega)]

theorem great_calls {w : World} {A : Option Addr} {c : Nat} {l : List ActS} (hr : Kd.C k32 w A l.length l) (hc : l.length ≤ c) :
    ∃ r : Bool, (r = false → small13 l) ∧ Calls Try.prog 6 #[.slice A l.length c] w fun e w' => e = .returned (.bool r) ∧ Drawn0 w w' := by
  obtain ⟨k, r, h1, h2⟩ := great_ev l
  exact ⟨r, h2, palaverlaw13_great.calls k A c l r w hr hc h1⟩

end Go.Proofs.Ytaecjkffemmpcaa
