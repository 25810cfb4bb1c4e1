/- Plain laws on the printed functions of palaverlaw13. -/
import Derived.Test.YtaecjkffemmpcaaPur
namespace Go.Proofs.Ytaecjkffemmpcaa
open Go.RowKit Go.Proofs.YtaecjkffemmpcaaW.PrintWords Go.Proofs.Ytaecjkffemmpcaa.PRef

abbrev ActS := S32
abbrev OneS := S44

def small13 (l : List ActS) : Prop := l.length ≤ 60 ∧ ∀ x ∈ l, x.f3.length ≤ 60

theorem rdT_at {xs : List ActS} {i : Nat} (h : i < xs.length) : rd_T32 xs (i : Int) = xs[i] := by
  unfold rd_T32
  rw [show ((i : Int)).toNat = i by omega, List.getD_eq_getElem?_getD, List.getElem?_eq_getElem h]; rfl

theorem rdO_at {xs : List OneS} {i : Nat} (h : i < xs.length) : rd_T44 xs (i : Int) = xs[i] := by
  unfold rd_T44
  rw [show ((i : Int)).toNat = i by omega, List.getD_eq_getElem?_getD, List.getElem?_eq_getElem h]; rfl

theorem great_ev (l : List ActS) : ∃ k r, palaverlaw13_great.f k l = some r ∧ (r = false → small13 l) := by
  by_cases hl : l.length ≤ 60
  · have key : ∀ d i, i ≤ l.length → l.length - i = d → (∀ j (hj : j < l.length), j < i → l[j].f3.length ≤ 60) → ∃ r, Ev (fun k => palaverlaw13_great.l0 k l (i : Int)) r ∧ (r = false → small13 l) := by
      intro d
      induction d with
      | zero =>
        intro i hi hd hb
        refine ⟨false, Ev.step (f := fun _ => some false) (fun k => ?_) (Ev.now _), fun _ => ⟨hl, fun x hx => ?_⟩⟩
        · simp only [palaverlaw13_great.l0]; rw [if_neg (by omega)]
        · obtain ⟨j, hj, rfl⟩ := List.getElem_of_mem hx
          exact hb j hj (by omega)
      | succ d ih =>
        intro i hi hd hb
        have hlt : i < l.length := by omega
        by_cases he : l[i].f3.length ≤ 60
        · obtain ⟨r, h1, h2⟩ := ih (i + 1) (by omega) (by omega) (fun j hj hji => by
            by_cases e : j = i
            · subst e; exact he
            · exact hb j hj (by omega))
          refine ⟨r, Ev.step (fun k => ?_) h1, h2⟩
          simp only [palaverlaw13_great.l0]; rw [if_pos (by omega), if_pos (by omega), rdT_at hlt, if_neg (by omega), wrapS (by omega)]
        · refine ⟨true, Ev.step (f := fun _ => some true) (fun k => ?_) (Ev.now _), fun h => by cases h⟩
          simp only [palaverlaw13_great.l0]; rw [if_pos (by omega), if_pos (by omega), rdT_at hlt, if_pos (by omega)]
    obtain ⟨r, h1, h2⟩ := key l.length 0 (Nat.zero_le _) rfl (fun j _ h => by omega)
    obtain ⟨k, hk⟩ := h1.rounds
    refine ⟨k, r, ?_, h2⟩
    unfold palaverlaw13_great.f
    rw [if_neg (by omega)]
    exact hk
  · refine ⟨0, true, ?_, fun h => by cases h⟩
    unfold palaverlaw13_great.f
    rw [if_pos (by omega)]

theorem great_calls {w : World} {A : Option Addr} {c : Nat} {l : List ActS} (hr : Kd.C k32 w A l.length l) (hc : l.length ≤ c) :
    ∃ r : Bool, (r = false → small13 l) ∧ Calls Try.prog 6 #[.slice A l.length c] w fun e w' => e = .returned (.bool r) ∧ Drawn0 w w' := by
  obtain ⟨k, r, h1, h2⟩ := great_ev l
  exact ⟨r, h2, palaverlaw13_great.calls k A c l r w hr hc h1⟩

/-! ### without -/
def strip (id : ByteArray) (m : List ByteArray) : List ByteArray := m.filter (fun s => decide (s ≠ id))

theorem strip_cons (id x : ByteArray) (m : List ByteArray) : strip id (x :: m) = if x = id then strip id m else x :: strip id m := by
  by_cases h : x = id <;> simp [strip, h]

theorem without_ev (l : List ByteArray) (s : ByteArray) (hl : l.length ≤ 1000000) : Ev (fun k => palaverlaw13_without.f k l s) (strip s l) := by
  have key : ∀ d i out, i ≤ l.length → l.length - i = d → out.length ≤ i → Ev (fun k => palaverlaw13_without.l0 k l s out (i : Int)) (out ++ strip s (l.drop i)) := by
    intro d
    induction d with
    | zero =>
      intro i out hi hd ho
      have e : i = l.length := by omega
      refine Ev.step (f := fun _ => some out) (fun k => ?_) ?_
      · simp only [palaverlaw13_without.l0]; rw [if_neg (by omega)]
      · rw [e, List.drop_length]; simp only [strip, List.filter_nil, List.append_nil]; exact Ev.now _
    | succ d ih =>
      intro i out hi hd ho
      have hlt : i < l.length := by omega
      rw [List.drop_eq_getElem_cons hlt, strip_cons]
      by_cases he : l[i] = s
      · rw [if_pos he]
        refine Ev.step (f := fun k => palaverlaw13_without.l0 k l s out ((i + 1 : Nat) : Int)) (fun k => ?_) (ih (i + 1) out (by omega) (by omega) (by omega))
        simp only [palaverlaw13_without.l0]; rw [if_pos (by omega), if_pos (by omega), rdOf_at hlt, if_pos ((toList_iff _ _).2 he), wrapS (by omega)]
      · rw [if_neg he]
        have hn := ih (i + 1) (out ++ [l[i]]) (by omega) (by omega) (by simp; omega)
        rw [List.append_assoc] at hn
        refine Ev.step (f := fun k => palaverlaw13_without.l0 k l s (out ++ [l[i]]) ((i + 1 : Nat) : Int)) (fun k => ?_) hn
        simp only [palaverlaw13_without.l0]; rw [if_pos (by omega), if_pos (by omega), rdOf_at hlt, if_neg (fun h => he ((toList_iff _ _).1 h)), if_pos (by omega), wrapS (by omega)]
  have := key l.length 0 [] (Nat.zero_le _) rfl (Nat.le_refl _)
  rw [List.drop_zero, List.nil_append] at this
  exact this

theorem without_calls {w : World} {A : Option Addr} {c : Nat} {l : List ByteArray} (s : ByteArray) (hr : Kd.C Kd.string w A l.length l) (hc : l.length ≤ c) (hl : l.length ≤ 1000000) :
    Calls Try.prog 13 #[.slice A l.length c, .string s] w fun e w' => ∃ v : Value, e = .returned v ∧ w'.ownsRow w.heap.size 9 1 v (strip s l).length ((strip s l).map Value.string) ∧ Below w.heap.size w w' := by
  obtain ⟨k, hk⟩ := (without_ev l s hl).rounds
  refine (palaverlaw13_without.calls k A c l s _ w hr hc hk).mono ?_
  rintro e w' ⟨v, rfl, hR, hb⟩
  exact ⟨v, rfl, strs_of_R hR, hb⟩

end Go.Proofs.Ytaecjkffemmpcaa
