/- The references' small functions; rows sorted, compacted, cloned; entries in plain. -/
import Derived.Test.YtplgelmfhacjkaaPRefx
import Derived.Test.YtplgelmfhacjkaaZA
import Derived.RangeFuncBox
import Derived.RangeFuncLeaves
import Derived.RangeFuncFrom
import Derived.Shelf.Abstract
import Derived.Shelf.SlIter.Sorted
import Derived.OwnWalkIn
import Derived.TacticsInMore
import Derived.LoopNIn
import Derived.LoopIn
import Derived.Test.YtplgelmfhacjkaaLays
import Derived.Deep.AppendSrc
import Derived.Test.YtplgelmfhacjkaaShelf

namespace Go.Proofs.Ytplgelmfhacjkaa
open Go.RowKit Go.Proofs.YtplgelmfhacjkaaW.PrintWords Go.Proofs.Ytplgelmfhacjkaa.PRef

/-! ### Has -/
theorem has_ev (l : List ByteArray) (s : ByteArray) (hl : l.length ≤ 1000000) : Ev (fun k => palaverref12_Has.f k l s) (inB l s) := by
  have key : ∀ d i, i ≤ l.length → l.length - i = d → Ev (fun k => palaverref12_Has.l0 k l s (i : Int)) (inB (l.drop i) s) := by
    intro d
    induction d with
    | zero =>
      intro i hi hd
      have e : i = l.length := by omega
      refine Ev.step (f := fun _ => some false) (fun k => ?_) ?_
      · simp only [palaverref12_Has.l0]; rw [if_neg (by omega)]
      · rw [e, List.drop_length]; exact Ev.now _
    | succ d ih =>
      intro i hi hd
      have hlt : i < l.length := by omega
      by_cases he : l[i] = s
      · refine Ev.step (f := fun _ => some true) (fun k => ?_) ?_
        · simp only [palaverref12_Has.l0]; rw [if_pos (by omega), if_pos (by omega), rdOf_at hlt, if_pos ((toList_iff _ _).2 he)]
        · have : inB (l.drop i) s = true := by
            rw [List.drop_eq_getElem_cons hlt, inB_cons]
            simp only [he, decide_true, Bool.true_or]
          rw [this]; exact Ev.now _
      · refine Ev.step (f := fun k => palaverref12_Has.l0 k l s ((i + 1 : Nat) : Int)) (fun k => ?_) ?_
        · simp only [palaverref12_Has.l0]; rw [if_pos (by omega), if_pos (by omega), rdOf_at hlt, if_neg (fun h => he ((toList_iff _ _).1 h)), wrapS (by omega)]
        · have : inB (l.drop i) s = inB (l.drop (i + 1)) s := by
            rw [List.drop_eq_getElem_cons hlt, inB_cons]
            simp only [he, decide_false, Bool.false_or]
          rw [this]; exact ih (i + 1) (by omega) (by omega)
  exact key l.length 0 (Nat.zero_le _) rfl

/-! ### Sorted -/
def below (s x : ByteArray) : Bool := decide (ltS x s)
def insAt (out : List ByteArray) (s : ByteArray) : Nat := (out.takeWhile (below s)).length
def ins1 (out : List ByteArray) (s : ByteArray) : List ByteArray := if inB out s then out else out.take (insAt out s) ++ s :: out.drop (insAt out s)

theorem insAt_le (out : List ByteArray) (s : ByteArray) : insAt out s ≤ out.length := (List.takeWhile_prefix _).length_le

theorem below_at {out : List ByteArray} {s : ByteArray} {j : Nat} (h : j < insAt out s) (hj : j < out.length) : ltS out[j] s := by
  have hp := List.takeWhile_prefix (l := out) (below s)
  have e : out[j] = (out.takeWhile (below s))[j]'h := (hp.getElem h).symm
  have hm : (out.takeWhile (below s))[j]'h ∈ out.takeWhile (below s) := List.getElem_mem _
  have := List.all_takeWhile (l := out) (p := below s)
  rw [List.all_eq_true] at this
  have := this _ hm
  rw [e]
  simpa [below] using this

theorem not_below_at {out : List ByteArray} {s : ByteArray} (h : insAt out s < out.length) : ¬ ltS out[insAt out s] s := by
  intro hc
  unfold insAt at h hc
  have hb : below s (out[(out.takeWhile (below s)).length]) = true := by simpa [below] using hc
  induction out with
  | nil => simp at h
  | cons x out ih =>
    by_cases hx : below s x = true
    · simp only [List.takeWhile_cons, hx, if_true, List.length_cons, List.getElem_cons_succ, Nat.add_lt_add_iff_right] at h hc hb
      exact ih h hc hb
    · simp only [List.takeWhile_cons, hx, Bool.false_eq_true, if_false, List.length_nil, List.getElem_cons_zero] at hb

theorem ins1_mem (out : List ByteArray) (s x : ByteArray) : x ∈ ins1 out s ↔ x ∈ out ∨ x = s := by
  unfold ins1
  split
  · rename_i h
    have := inB_iff.1 h
    exact ⟨.inl, fun h => h.elim (fun h => h) (fun e => e ▸ this)⟩
  · have : x ∈ out ↔ x ∈ out.take (insAt out s) ∨ x ∈ out.drop (insAt out s) := by rw [← List.mem_append, List.take_append_drop]
    rw [List.mem_append, List.mem_cons, this]
    constructor
    · rintro (h | h | h)
      · exact .inl (.inl h)
      · exact .inr h
      · exact .inl (.inr h)
    · rintro ((h | h) | h)
      · exact .inl h
      · exact .inr (.inr h)
      · exact .inr (.inl h)

theorem ins1_rising {out : List ByteArray} (h : SRising out) (s : ByteArray) : SRising (ins1 out s) := by
  unfold ins1
  split
  · exact h
  · rename_i hin
    have hns : s ∉ out := fun hm => hin (inB_iff.2 hm)
    have h' : SRising (out.take (insAt out s) ++ out.drop (insAt out s)) := by rw [List.take_append_drop]; exact h
    obtain ⟨h1, h2, h3⟩ := List.pairwise_append.1 h'
    have hlo : ∀ x ∈ out.take (insAt out s), ltS x s := by
      intro x hx
      obtain ⟨j, hj⟩ := List.getElem?_of_mem hx
      rw [List.getElem?_take] at hj
      split at hj
      · rename_i hlt
        obtain ⟨hjl, rfl⟩ := List.getElem?_eq_some_iff.1 hj
        exact below_at hlt hjl
      · cases hj
    have hhi : ∀ x ∈ out.drop (insAt out s), ltS s x := by
      intro x hx
      obtain ⟨j, hj⟩ := List.getElem?_of_mem hx
      rw [List.getElem?_drop] at hj
      obtain ⟨hjl, rfl⟩ := List.getElem?_eq_some_iff.1 hj
      have hat : insAt out s < out.length := by omega
      have hn := not_below_at hat
      have h0 : ltS s out[insAt out s] := ltS_total hn (fun e => hns (e ▸ List.getElem_mem _))
      rcases Nat.eq_zero_or_pos j with e | e
      · subst e; simpa using h0
      · exact ltS_trans h0 (List.pairwise_iff_getElem.1 h _ _ hat hjl (by omega))
    refine List.pairwise_append.2 ⟨h1, List.pairwise_cons.2 ⟨hhi, h2⟩, fun x hx y hy => ?_⟩
    rcases List.mem_cons.1 hy with rfl | hy
    · exact hlo x hx
    · exact h3 x hx y hy

theorem ins1_length (out : List ByteArray) (s : ByteArray) : (ins1 out s).length ≤ out.length + 1 := by
  unfold ins1
  split
  · omega
  · simp only [List.length_append, List.length_take, List.length_cons, List.length_drop]
    omega

def srt (l : List ByteArray) : List ByteArray := l.foldl ins1 []

theorem foldl_ins1 (l : List ByteArray) : ∀ out, SRising out → SRising (l.foldl ins1 out) ∧ (∀ x, x ∈ l.foldl ins1 out ↔ x ∈ out ∨ x ∈ l) ∧ (l.foldl ins1 out).length ≤ out.length + l.length := by
  induction l with
  | nil => intro out h; exact ⟨h, by simp, by simp⟩
  | cons s l ih =>
    intro out h
    obtain ⟨h1, h2, h3⟩ := ih (ins1 out s) (ins1_rising h s)
    refine ⟨h1, fun x => ?_, ?_⟩
    · rw [List.foldl_cons, h2, ins1_mem, List.mem_cons]
      constructor
      · rintro ((h | h) | h)
        · exact .inl h
        · exact .inr (.inl h)
        · exact .inr (.inr h)
      · rintro (h | h | h)
        · exact .inl (.inl h)
        · exact .inl (.inr h)
        · exact .inr h
    · have := ins1_length out s
      simp only [List.foldl_cons, List.length_cons]
      omega

theorem srt_rising (l : List ByteArray) : SRising (srt l) := (foldl_ins1 l [] List.Pairwise.nil).1
theorem srt_mem (l : List ByteArray) (x : ByteArray) : x ∈ srt l ↔ x ∈ l := by have := (foldl_ins1 l [] List.Pairwise.nil).2.1 x; simpa [srt] using this
theorem srt_length (l : List ByteArray) : (srt l).length ≤ l.length := by have := (foldl_ins1 l [] List.Pairwise.nil).2.2; simpa [srt] using this

/-- The shift: xs holds out below p, and out, moved on by one, above p. -/
def Shifted (out xs : List ByteArray) (p : Nat) : Prop := xs.length = out.length + 1 ∧ (∀ j, j < p → xs[j]? = out[j]?) ∧ ∀ j, p < j → xs[j]? = out[j - 1]?

theorem shifted_set {out xs : List ByteArray} {a : Nat} (h : Shifted out xs a) (ha : a ≤ out.length) (s : ByteArray) : xs.set a s = out.take a ++ s :: out.drop a := by
  obtain ⟨h1, h2, h3⟩ := h
  apply List.ext_getElem?
  intro j
  rw [List.getElem?_set]
  rcases Nat.lt_trichotomy j a with hj | hj | hj
  · rw [if_neg (by omega), h2 j hj, List.getElem?_append_left (by simp; omega), List.getElem?_take, if_pos hj]
  · subst hj
    rw [if_pos rfl, if_pos (by omega), List.getElem?_append_right (by simp; omega)]
    simp [Nat.min_eq_left ha]
  · rw [if_neg (by omega), h3 j hj, List.getElem?_append_right (by simp; omega)]
    simp only [List.length_take, Nat.min_eq_left ha]
    obtain ⟨m, rfl⟩ : ∃ m, j = a + (m + 1) := ⟨j - a - 1, by omega⟩
    rw [show a + (m + 1) - a = m + 1 by omega, List.getElem?_cons_succ, List.getElem?_drop]
    congr 1

theorem sorted_l2 (l out : List ByteArray) (hl : l.length ≤ 1000000) (hout : out.length ≤ 1000000) (i : Nat) (hi : i < l.length) (a : Nat) (ha : a ≤ out.length) (r : List ByteArray)
    (hr : Ev (fun k => palaverref12_Sorted.l0 k l (out.take a ++ l[i] :: out.drop a) ((i + 1 : Nat) : Int)) r) :
    ∀ d p xs, p - a = d → a ≤ p → p ≤ out.length → Shifted out xs p → Ev (fun k => palaverref12_Sorted.l2 k l xs (i : Int) (a : Int) (p : Int)) r := by
  intro d
  induction d with
  | zero =>
    intro p xs hd hap hp hs
    obtain rfl : p = a := by omega
    refine Ev.step (f := fun k => palaverref12_Sorted.l0 k l (out.take p ++ l[i] :: out.drop p) ((i + 1 : Nat) : Int)) (fun k => ?_) hr
    simp only [palaverref12_Sorted.l2]
    rw [if_neg (by omega), if_pos (by omega), if_pos (by omega), if_pos (by omega), if_pos (by have := hs.1; omega), rdOf_at hi, wrapS (by omega)]
    rw [show ((p : Int)).toNat = p by omega, shifted_set hs hp]
  | succ d ih =>
    intro p xs hd hap hp hs
    have hw : wrap64 ((p : Int) - 1) = ((p - 1 : Nat) : Int) := by unfold wrap64; omega
    have hxl := hs.1
    refine Ev.step (f := fun k => palaverref12_Sorted.l2 k l (xs.set p (xs.getD (p - 1) ByteArray.empty)) (i : Int) (a : Int) ((p - 1 : Nat) : Int)) (fun k => ?_) ?_
    · simp only [palaverref12_Sorted.l2]
      rw [if_pos (by omega), hw, if_pos (by omega), if_pos (by omega), if_pos (by omega), if_pos (by omega), rdOf_nat, show ((p : Int)).toNat = p by omega]
    · refine ih (p - 1) _ (by omega) (by omega) (by omega) ⟨by simp [hxl], fun j hj => ?_, fun j hj => ?_⟩
      · rw [List.getElem?_set, if_neg (by omega)]
        exact hs.2.1 j (by omega)
      · rw [List.getElem?_set]
        by_cases e : p = j
        · subst e
          rw [if_pos rfl, if_pos (by omega)]
          have h1 := hs.2.1 (p - 1) (by omega)
          rw [List.getElem?_eq_getElem (show p - 1 < out.length by omega)] at h1
          rw [List.getElem?_eq_getElem (show p - 1 < out.length by omega), List.getD_eq_getElem?_getD, h1]
          rfl
        · rw [if_neg e]
          exact hs.2.2 j (by omega)

theorem sorted_l1 (l out : List ByteArray) (hl : l.length ≤ 1000000) (hout : out.length ≤ 1000000) (i : Nat) (hi : i < l.length) (r : List ByteArray)
    (hr : Ev (fun k => palaverref12_Sorted.l0 k l (out.take (insAt out l[i]) ++ l[i] :: out.drop (insAt out l[i])) ((i + 1 : Nat) : Int)) r) :
    ∀ d j, insAt out l[i] - j = d → j ≤ insAt out l[i] → Ev (fun k => palaverref12_Sorted.l1 k l out (i : Int) (j : Int)) r := by
  have hat := insAt_le out l[i]
  have hj2 : Ev (fun k => palaverref12_Sorted.j2 k l out (i : Int) ((insAt out l[i] : Nat) : Int)) r := by
    refine Ev.step (f := fun k => palaverref12_Sorted.l2 k l (out ++ [⟨#[]⟩]) (i : Int) ((insAt out l[i] : Nat) : Int) ((out.length : Nat) : Int)) (fun k => ?_) ?_
    · simp only [palaverref12_Sorted.j2]
      rw [if_pos (by omega)]
      simp only [Option.bind_some]
      congr 1
      simp only [List.length_append, List.length_cons, List.length_nil]
      unfold wrap64; omega
    · refine sorted_l2 l out hl hout i hi _ hat r hr _ out.length _ rfl hat (Nat.le_refl _) ⟨by simp, fun j hj => by rw [List.getElem?_append_left hj], fun j hj => ?_⟩
      rw [List.getElem?_eq_none (by simp; omega), List.getElem?_eq_none (by omega)]
  intro d
  induction d with
  | zero =>
    intro j hd hj
    obtain rfl : j = insAt out l[i] := by omega
    refine Ev.step (f := fun k => palaverref12_Sorted.j2 k l out (i : Int) ((insAt out l[i] : Nat) : Int)) (fun k => ?_) hj2
    simp only [palaverref12_Sorted.l1]
    by_cases hlt : insAt out l[i] < out.length
    · rw [if_pos (by omega), if_pos (by omega), if_pos (by omega), if_pos (by omega), rdOf_at hlt, rdOf_at hi, less_eq, if_neg]
      simpa using not_below_at hlt
    · rw [if_neg (by omega)]
  | succ d ih =>
    intro j hd hj
    have hjl : j < out.length := by omega
    refine Ev.step (f := fun k => palaverref12_Sorted.l1 k l out (i : Int) ((j + 1 : Nat) : Int)) (fun k => ?_) (ih (j + 1) (by omega) (by omega))
    simp only [palaverref12_Sorted.l1]
    rw [if_pos (by omega), if_pos (by omega), if_pos (by omega), if_pos (by omega), rdOf_at hjl, rdOf_at hi, less_eq, if_pos, wrapS (by omega)]
    simpa using below_at (show j < insAt out l[i] by omega) hjl

theorem sorted_ev (l : List ByteArray) (hl : l.length ≤ 1000000) : Ev (fun k => palaverref12_Sorted.f k l) (srt l) := by
  have key : ∀ d i out, i ≤ l.length → l.length - i = d → out.length ≤ i → Ev (fun k => palaverref12_Sorted.l0 k l out (i : Int)) ((l.drop i).foldl ins1 out) := by
    intro d
    induction d with
    | zero =>
      intro i out hi hd ho
      have e : i = l.length := by omega
      refine Ev.step (f := fun _ => some out) (fun k => ?_) ?_
      · simp only [palaverref12_Sorted.l0]; rw [if_neg (by omega)]
      · rw [e, List.drop_length]; exact Ev.now _
    | succ d ih =>
      intro i out hi hd ho
      have hlt : i < l.length := by omega
      have hnext := ih (i + 1) (ins1 out l[i]) (by omega) (by omega) (by have := ins1_length out l[i]; omega)
      have hfold : (l.drop i).foldl ins1 out = (l.drop (i + 1)).foldl ins1 (ins1 out l[i]) := by rw [List.drop_eq_getElem_cons hlt, List.foldl_cons]
      rw [hfold]
      have hgo : Ev (fun k => if (inB out l[i]) = true then palaverref12_Sorted.l0 k l out ((i + 1 : Nat) : Int) else palaverref12_Sorted.l1 k l out (i : Int) 0) ((l.drop (i + 1)).foldl ins1 (ins1 out l[i])) := by
        by_cases hin : inB out l[i] = true
        · have e : ins1 out l[i] = out := by simp [ins1, hin]
          rw [e] at hnext ⊢
          exact Ev.congr (fun k => by rw [if_pos hin]) hnext
        · have e : ins1 out l[i] = out.take (insAt out l[i]) ++ l[i] :: out.drop (insAt out l[i]) := by simp [ins1, hin]
          rw [e] at hnext ⊢
          exact Ev.congr (fun k => by rw [if_neg hin]; rfl) (sorted_l1 l out hl (by omega) i hlt _ hnext _ 0 rfl (Nat.zero_le _))
      refine Ev.step (f := fun k => (palaverref12_Has.f k out l[i]).bind fun t => if t = true then palaverref12_Sorted.l0 k l out ((i + 1 : Nat) : Int) else palaverref12_Sorted.l1 k l out (i : Int) 0) (fun k => ?_) (Ev.bind (has_ev out l[i] (by omega)) hgo)
      simp only [palaverref12_Sorted.l0]
      rw [if_pos (by omega), if_pos (by omega), rdOf_at hlt, wrapS (by omega)]
  exact key l.length 0 [] (Nat.zero_le _) rfl (Nat.le_refl _)

/-! ### Same -/
theorem same_ev (a b : List ByteArray) (hl : a.length ≤ 1000000) : Ev (fun k => palaverref12_Same.f k a b) (decide (a = b)) := by
  by_cases hab : a.length = b.length
  · have key : ∀ d i, i ≤ a.length → a.length - i = d → Ev (fun k => palaverref12_Same.l0 k a b (i : Int)) (decide (a.drop i = b.drop i)) := by
      intro d
      induction d with
      | zero =>
        intro i hi hd
        have e : i = a.length := by omega
        refine Ev.step (f := fun _ => some true) (fun k => ?_) ?_
        · simp only [palaverref12_Same.l0]; rw [if_neg (by omega)]
        · have : decide (a.drop i = b.drop i) = true := by rw [e, List.drop_length, hab, List.drop_length]; rfl
          rw [this]; exact Ev.now _
      | succ d ih =>
        intro i hi hd
        have hla : i < a.length := by omega
        have hlb : i < b.length := by omega
        by_cases he : a[i] = b[i]
        · refine Ev.step (f := fun k => palaverref12_Same.l0 k a b ((i + 1 : Nat) : Int)) (fun k => ?_) ?_
          · simp only [palaverref12_Same.l0]; rw [if_pos (by omega), if_pos (by omega), if_pos (by omega), rdOf_at hla, rdOf_at hlb, if_pos ((toList_iff _ _).2 he), wrapS (by omega)]
          · have : decide (a.drop i = b.drop i) = decide (a.drop (i + 1) = b.drop (i + 1)) := by
              rw [List.drop_eq_getElem_cons hla, List.drop_eq_getElem_cons hlb]
              simp only [List.cons.injEq, he, true_and]
            rw [this]; exact ih (i + 1) (by omega) (by omega)
        · refine Ev.step (f := fun _ => some false) (fun k => ?_) ?_
          · simp only [palaverref12_Same.l0]; rw [if_pos (by omega), if_pos (by omega), if_pos (by omega), rdOf_at hla, rdOf_at hlb, if_neg (fun h => he ((toList_iff _ _).1 h))]
          · have : decide (a.drop i = b.drop i) = false := by
              rw [List.drop_eq_getElem_cons hla, List.drop_eq_getElem_cons hlb]
              simp only [List.cons.injEq, he, false_and, decide_false]
            rw [this]; exact Ev.now _
    refine Ev.congr (fun k => ?_) (key a.length 0 (Nat.zero_le _) rfl)
    unfold palaverref12_Same.f
    rw [if_pos (by omega)]
    rfl
  · have : decide (a = b) = false := by simpa using fun e : a = b => hab (by rw [e])
    rw [this]
    refine Ev.congr (fun k => ?_) (Ev.now _)
    unfold palaverref12_Same.f
    rw [if_neg (by omega)]

/-! ### the contracts, in one word each -/
theorem has_calls {w : World} {A : Option Addr} {c : Nat} {l : List ByteArray} (s : ByteArray) (hr : Kd.C Kd.string w A l.length l) (hc : l.length ≤ c) (hl : l.length ≤ 1000000) :
    Calls Try.prog 20 #[.slice A l.length c, .string s] w fun e w' => e = .returned (.bool (inB l s)) ∧ Drawn0 w w' := by
  obtain ⟨k, hk⟩ := (has_ev l s hl).rounds
  exact palaverref12_Has.calls k A c l s _ w hr hc hk

theorem sorted_calls {w : World} {A : Option Addr} {c : Nat} {l : List ByteArray} (hr : Kd.C Kd.string w A l.length l) (hc : l.length ≤ c) (hl : l.length ≤ 1000000) :
    Calls Try.prog 37 #[.slice A l.length c] w fun e w' => ∃ v : Value, e = .returned v ∧ w'.ownsRow w.heap.size 9 1 v (srt l).length ((srt l).map Value.string) ∧ Below w.heap.size w w' := by
  obtain ⟨k, hk⟩ := (sorted_ev l hl).rounds
  refine (palaverref12_Sorted.calls k A c l _ w hr hc hk).mono ?_
  rintro e w' ⟨v, rfl, hR, hb⟩
  exact ⟨v, rfl, strs_of_R hR, hb⟩

theorem same_calls {w : World} {A B : Option Addr} {c d : Nat} {a b : List ByteArray} (hr : Kd.C Kd.string w A a.length a) (hc : a.length ≤ c) (hr2 : Kd.C Kd.string w B b.length b) (hd : b.length ≤ d) (hl : a.length ≤ 1000000) :
    Calls Try.prog 24 #[.slice A a.length c, .slice B b.length d] w fun e w' => e = .returned (.bool (decide (a = b))) ∧ Drawn0 w w' := by
  obtain ⟨k, hk⟩ := (same_ev a b hl).rounds
  exact palaverref12_Same.calls k A c a B d b _ w hr hc hr2 hd hk

end Go.Proofs.Ytplgelmfhacjkaa

namespace Go.Proofs.Ytplgelmfhacjkaa
open Go.RowKit Go.Shelf Go.Sort Go.Proofs.YtplgelmfhacjkaaW.PrintWords

attribute [local go_sem] Oper.semAt_some

theorem add_block (a : Addr) (j : Nat) : (a.add j).block = a.block := by unfold Addr.add; split <;> rfl

set_option maxRecDepth 100000 in
set_option maxHeartbeats 2000000 in
theorem values1_in (F : Fence) (n : Nat) (hf : F.fn 44) (hro : F.round = none) (hn : 1 ≤ n) (l Bs n₀ cap : Nat) (A : Option Addr) (xs : List ByteArray) (hreach : xs.length ≤ 1000000) (hb : ∀ ad, A = some ad → 0 < xs.length → ad.block < n₀) (J Jx : List ByteArray → World → Prop)
    (hY : ∀ pre x W, J pre W → pre.length < xs.length → YieldAt F (n - 1) Try.prog l #[.string x] W fun e W' =>
      (e = .returned (.bool true) ∧ J (pre ++ [x]) W' ∧ Below n₀ W W') ∨ (e = .returned (.bool false) ∧ Jx (pre ++ [x]) W'))
    (W : World) (hBs : W.cell? ⟨Bs, 0, none⟩ = some (.slice A xs.length cap)) (hc : Kd.C Kd.string W A xs.length xs) (h0 : J [] W) :
    CallsIn F n Try.prog 44 #[.func (.yield l) #[] #[], .pointer (some ⟨Bs, 0, none⟩)] W fun e W' => (∃ v, e = .returned v) ∧
      ((∃ ys, ys = xs ∧ J ys W') ∨ (∃ pre, pre <+: xs ∧ Jx pre W')) := by
  refine callsIn_of_wp Try.func44 rfl hf ?_ hro
  simp only [Try.ntmps44, List.size_toArray, List.length_cons, List.length_nil, Nat.reduceAdd, Nat.reduceSub, Array.replicate_succ, Array.replicate_zero, List.push_toArray, List.append_toArray, List.nil_append, List.cons_append]
  gi_wp2
  gi_loopw [7] (fun i wr => ∃ k : Nat, k ≤ xs.length ∧ i = .int .i64 k ∧ J (xs.take k) wr ∧ Below n₀ W wr)
    (fun i _ => xs.length - (intOf i).toNat)
  case atStart => exact ⟨0, Nat.zero_le _, rfl, h0, Below.refl _ _⟩
  case round =>
    obtain ⟨k, hk, rfl, hJs, hnx⟩ := hrel
    by_cases hlt : k < xs.length
    · obtain ⟨ad, rfl, hcell⟩ := at_str hc hlt
      have hcx := (hnx.cell (p := ad.add k) (by rw [add_block]; exact hb ad rfl (by omega))).trans hcell
      obtain ⟨fn, tmps, assign, body, hy, hR⟩ := hY _ xs[k] wr hJs (by rw [List.length_take]; omega)
      have hw : IntKind.i64.wrap ((k : Int) + 1) = ((k + 1 : Nat) : Int) := (IntWalk.i64_in _ (by omega)).trans (by simp)
      gi_wp2
      refine hR.mono ?_
      rintro e W3 (⟨rfl, hJ3, hk3⟩ | ⟨rfl, hJx3⟩)
      · gi_wp2
        go_roundw
        case rel => exact ⟨k + 1, by omega, by simp, by rw [List.take_succ_eq_append_getElem hlt]; exact hJ3, hnx.trans hk3⟩
        case measure => simp [intOf]; omega
      · gi_wp2
        refine bodyPost_ret (results_none rfl _ _ _) rfl ?_
        exact ⟨⟨_, rfl⟩, .inr ⟨_, by rw [← List.take_succ_eq_append_getElem hlt]; exact List.take_prefix _ _, hJx3⟩⟩
    · obtain rfl : k = xs.length := by omega
      gi_wp2
      go_end0
      exact ⟨⟨_, rfl⟩, .inl ⟨_, List.take_length, hJs⟩⟩

/-- slices.Values(xs): the slice's value is boxed; the function's value captures the box. -/
theorem values_in (F : Fence) (n : Nat) (hf : F.fn 33) (hro : F.round = none) (a : Option Addr) (len cap : Nat) (w : World) :
    CallsIn F n Try.prog 33 #[.slice a len cap] w fun e w' => e = .returned (.func (.func 44) #[] #[.pointer (some ⟨w.heap.size, 0, none⟩)]) ∧ w' = w.alloc (.cells #[.slice a len cap] 25) := by
  refine callsIn_of_wp Try.func33 rfl hf ?_ hro
  simp only [Try.ntmps33, List.size_toArray, List.length_cons, List.length_nil, Nat.reduceAdd, Nat.reduceSub, Array.replicate_succ, Array.replicate_zero, List.push_toArray, List.append_toArray, List.nil_append, List.cons_append]
  gi_wp2
  go_ret
  exact ⟨rfl, rfl⟩

theorem values_stops (F : Fence) (n : Nat) (hf : F.fn 44) (hro : F.round = none) (hn : 1 ≤ n) (Bs n₀ cap : Nat) (A : Option Addr) (xs : List ByteArray) (hreach : xs.length ≤ 1000000) (hb : ∀ ad, A = some ad → 0 < xs.length → ad.block < n₀)
    (w : World) (hBs : Bs < w.heap.size) (hn₀ : n₀ ≤ w.heap.size) (hcl : w.cell? ⟨Bs, 0, none⟩ = some (.slice A xs.length cap)) (hc : Kd.C Kd.string w A xs.length xs) :
    SeqStopsK F n Try.prog 44 #[.pointer (some ⟨Bs, 0, none⟩)] (fun x : ByteArray => #[Value.string x]) (Below n₀) (fun ys => ys = xs) (fun pre => pre <+: xs) xs.length w := fun l J Jx W hW _ _ hY h0 =>
  values1_in F n hf hro hn l Bs n₀ cap A xs hreach hb J Jx hY W ((hW.cell (p := ⟨Bs, 0, none⟩) hBs).trans hcl) (Kd.C_below hc hW) h0

theorem info_strs : (Try.prog.info? 9).map (fun i => (i.zero, i.size, i.bytes)) = some (some (.string ⟨#[]⟩), 1, 16) := by kernel_rfl

set_option maxRecDepth 100000 in
set_option maxHeartbeats 2000000 in
/-- slices.AppendSeq(nil, slices.Values(xs)). -/
theorem appendVals_in (F : Fence) (n : Nat) (hf : F.fn 53) (hv1 : F.fn 44) (hro : F.round = none) (hn : 3 ≤ n) (Bs cap : Nat) (A : Option Addr) (xs : List ByteArray) (hreach : xs.length ≤ 1000000)
    (w : World) (hb : ∀ ad, A = some ad → 0 < xs.length → ad.block < w.heap.size) (hBs : Bs < w.heap.size) (hcl : w.cell? ⟨Bs, 0, none⟩ = some (.slice A xs.length cap)) (hc : Kd.C Kd.string w A xs.length xs) :
    CallsIn F n Try.prog 53 #[.slice none 0 0, .func (.func 44) #[] #[.pointer (some ⟨Bs, 0, none⟩)]] w fun e w' => ∃ v, e = .returned v ∧
      w'.ownsRow w.heap.size 9 1 v xs.length (xs.map Value.string) ∧ (v = .slice none 0 0 ↔ xs = []) ∧ Below w.heap.size w w' := by
  have h1 : 1 ≤ n := by omega
  obtain ⟨i0, hi, hz0, hz1, hz2⟩ := info_parts info_strs
  refine callsIn_of_wp_marks Try.func53 rfl hf ?_ hro
  simp only [Try.ntmps53, List.size_toArray, List.length_cons, List.length_nil, Nat.reduceAdd, Nat.reduceSub, Array.replicate_succ, Array.replicate_zero, List.push_toArray, List.append_toArray, List.nil_append, List.cons_append]
  gi_wp2
  have bO := Boxed.new w 25 (.slice none 0 0)
  have hB0 : Below w.heap.size w (w.alloc (.cells #[.slice none 0 0] 25)) := (Below.refl _ w).alloc (Nat.le_refl _) _
  refine wpIn_rangeFunc_ownG hro h1 (gf := 44) (lb := #[.pointer (some ⟨Bs, 0, none⟩)]) rfl hv1 (enters_of Try.func44 (by kernel_rfl) rfl)
    (values_stops F (n - 1) hv1 hro (by omega) Bs w.heap.size cap A xs hreach hb (w.alloc (.cells #[.slice none 0 0] 25)) (by simp; omega) (by simp) ((hB0.cell (p := ⟨Bs, 0, none⟩) hBs).trans hcl) (Kd.C_below hc hB0)) belowK_t (belowK_b (by simp)) (Below.refl _ _) (fun _ => rfl)
    (fun pre W => (∃ v, Boxed W w.heap.size 25 v ∧ W.ownsRow w.heap.size 9 1 v pre.length (pre.map Value.string) ∧ (v = .slice none 0 0 ↔ pre = [])) ∧ Below w.heap.size w W)
    (fun _ _ _ => False)
    (OwnFrom.and (Own.from (holdsRow_own w.heap.size w.heap.size 25 9 1 (fun pre : List ByteArray => pre.length) (fun pre => pre.map Value.string) (fun pre v => v = .slice none 0 0 ↔ pre = [])) _) (ownFrom_below (Nat.le_refl _) (by simp)))
    (fun _ _ _ _ _ hs _ _ => hs)
    ⟨⟨_, bO, World.ownsRow_nil _ _ _ _, by simp⟩, hB0⟩
    (fun x => { tmps := #[.slice none 0 0, .func (.func 44) #[] #[.pointer (some ⟨Bs, 0, none⟩)], .pointer (some ⟨w.heap.size, 0, none⟩), undef, .slice none 0 0, .string x, .func (.func 44) #[] #[.pointer (some ⟨Bs, 0, none⟩)], .string x, undef, undef, undef, undef, undef], defers := [] }) ?assign ?body ?done ?stop
  case assign =>
    intro l x W K hK
    gi_wp2
    exact hK
  case body =>
    rintro l pre x W ⟨⟨v, hv, hrow, hnil⟩, hB⟩ hlt
    have hlen : pre.length + 1 ≤ maxLen := by unfold maxLen; omega
    have hbytes : (pre.length + 1) * 16 ≤ 140737488355328 := by omega
    have hc := hv.cell
    gi_wp2_with (gi_at_builtin; refine wpListIn_append_own _ rfl _ _ 25 rfl w.heap.size 9 i0 (.string ⟨#[]⟩) 1 16 Try.underlying25 hi hz0 hz1 hz2 rfl (by decide) _ _ _ rfl (hrow.alloc _) ⟨W.heap.size, 0, none⟩ 1 1 [.string x] rfl rfl (cell_one_new _ _ _) (by simp [Value.oneCell']) (by omega) (by omega) (by have := hB.size; simp; omega) ?_; intro v' w1 hown' hgrow _; obtain ⟨g', cap', rfl⟩ := ownsRow_succ hown'; obtain ⟨hv1, hv2, hr2, hk2, hb2⟩ := hv.appended (by decide) hrow hB.size (Nat.le_refl _) hown' hgrow; have hc1 := hv1.cell; have hf1 := hv1.frozen)
    exact ⟨hk2.from _, hb2, ⟨_, hv2, by simpa using hr2, by simp⟩, hB.trans hb2⟩
  case done =>
    rintro D ys W hD rfl ⟨⟨v, hv, hrow, hnil⟩, hB⟩ hK
    have hc := hv.cell
    gi_wp2
    refine ⟨by simp, .inl ⟨_, _, rfl, run_takeDeferred hK, ?_⟩⟩
    exact ⟨_, results_tmp rfl _ _ _, v, rfl, ownsRow_putObj hrow _ hK rfl, hnil, hB.trans (belowK_b (w := w) (Nat.le_refl _) W D _ _ (by simp at hD; omega) hK rfl rfl)⟩
  case stop =>
    rintro D c pre W _ _ h _
    exact h.elim

set_option maxRecDepth 100000 in
set_option maxHeartbeats 1000000 in
theorem collectVals_in (F : Fence) (n : Nat) (hf : F.fn 43) (ha : F.fn 53) (hv1 : F.fn 44) (hro : F.round = none) (hn : 4 ≤ n) (Bs cap : Nat) (A : Option Addr) (xs : List ByteArray) (hreach : xs.length ≤ 1000000)
    (w : World) (hb : ∀ ad, A = some ad → 0 < xs.length → ad.block < w.heap.size) (hBs : Bs < w.heap.size) (hcl : w.cell? ⟨Bs, 0, none⟩ = some (.slice A xs.length cap)) (hc : Kd.C Kd.string w A xs.length xs) :
    CallsIn F n Try.prog 43 #[.func (.func 44) #[] #[.pointer (some ⟨Bs, 0, none⟩)]] w fun e w' => ∃ v, e = .returned v ∧
      w'.ownsRow w.heap.size 9 1 v xs.length (xs.map Value.string) ∧ (v = .slice none 0 0 ↔ xs = []) ∧ Below w.heap.size w w' := by
  have h1 : 1 ≤ n := by omega
  refine callsIn_of_wp Try.func43 rfl hf ?_ hro
  simp only [Try.ntmps43, List.size_toArray, List.length_cons, List.length_nil, Nat.reduceAdd, Nat.reduceSub, Array.replicate_succ, Array.replicate_zero, List.push_toArray, List.append_toArray, List.nil_append, List.cons_append]
  gi_wp2_with (gi_at_call 53; refine (appendVals_in F (n - 1) ha hv1 hro (by omega) Bs cap A xs hreach _ hb hBs hcl hc).mono ?_; rintro e w' ⟨v, rfl, hrow, hnil, hb'⟩)
  go_ret
  exact ⟨v, rfl, hrow, hnil, hb'⟩

/-- A text's bytes. -/
def bL (s : ByteArray) : List UInt8 := s.data.toList
theorem encStr_bL (s : ByteArray) : encStr (bL s) = Value.string s := by cases s; rfl
theorem map_bL (xs : List ByteArray) : (xs.map bL).map encStr = xs.map Value.string := by
  rw [List.map_map]
  exact List.map_congr_left fun s _ => encStr_bL s

theorem sorts_at (m : Nat) : AnyZ.SortsIn Try.prog Try.sorted32_ren Fence.wide m :=
  ⟨fun blk off cap ss W hH hblk hsz => callsIn_wide.2 (AnyM.slices_Sort_string Try.sort34 blk off cap ss W hH hblk hsz),
   fun p cap W => callsIn_wide.2 (AnyM.slices_Sort_string_none Try.sort34 p cap W)⟩

set_option maxRecDepth 100000 in
set_option maxHeartbeats 1000000 in
theorem sortedVals_in (F : Fence) (n : Nat) (h32 : F.fn 32) (h34 : F.fn 34) (hf : F.fn 43) (ha : F.fn 53) (hv1 : F.fn 44) (hro : F.round = none) (hsort : AnyZ.SortsIn Try.prog Try.sorted32_ren F (n - 1)) (hn : 5 ≤ n) (Bs cap : Nat) (A : Option Addr) (xs : List ByteArray) (hreach : xs.length ≤ 1000000)
    (w : World) (hb : ∀ ad, A = some ad → 0 < xs.length → ad.block < w.heap.size) (hBs : Bs < w.heap.size) (hcl : w.cell? ⟨Bs, 0, none⟩ = some (.slice A xs.length cap)) (hc : Kd.C Kd.string w A xs.length xs) :
    CallsIn F n Try.prog 32 #[.func (.func 44) #[] #[.pointer (some ⟨Bs, 0, none⟩)]] w fun e w' => ∃ v, e = .returned v ∧
      w'.ownsRow w.heap.size 9 1 v (xs.map bL).length (((xs.map bL).mergeSort (fun x y => decide (x ≤ y))).map encStr) ∧ Below w.heap.size w w' := by
  have h1 : 1 ≤ n := by omega
  refine callsIn_of_wp Try.func32 rfl h32 ?_ hro
  simp only [Try.ntmps32, List.size_toArray, List.length_cons, List.length_nil, Nat.reduceAdd, Nat.reduceSub, Array.replicate_succ, Array.replicate_zero, List.push_toArray, List.append_toArray, List.nil_append, List.cons_append]
  gi_wp2_with (gi_at_call 43; refine (collectVals_in F (n - 1) hf ha hv1 hro (by omega) Bs cap A xs hreach _ hb hBs hcl hc).mono ?_; rintro e W ⟨v, rfl, hrow, hnil, hb'⟩)
  have hrow' : W.ownsRow w.heap.size 9 1 v (xs.map bL).length ((xs.map bL).map encStr) := by rw [map_bL, List.length_map]; exact hrow
  have hsl : (xs.map bL).length = xs.length := List.length_map ..
  rcases hrow'.2 with ⟨rfl, hz⟩ | ⟨gb, cap', cur, rfl, hbase, hgb, r1, r2, r3, r4⟩
  · have hss : xs = [] := List.eq_nil_of_length_eq_zero (by omega)
    subst hss
    gi_wp2_with (gi_at_call 34; refine (hsort.2 none 0 W).mono ?_; rintro e w' ⟨rfl, rfl⟩)
    go_ret
    exact ⟨.slice none 0 0, rfl, by simpa using hrow', hb'⟩
  · have hH : Holds encStr W gb 0 (xs.map bL).toArray := holds_of_block hgb (by simpa using r4)
    have hgl : gb < W.heap.size := (Array.getElem?_eq_some_iff.1 hgb).1
    have cS := hsort.1 gb 0 cap' (xs.map bL) W hH hgl (by omega)
    gi_wp2_with (gi_at_call 34; refine cS.mono ?_; rintro e w' ⟨rfl, nn, os, rfl⟩)
    go_ret
    have hos := ownsRow_sorted (os := os) (n := nn) (ts := (xs.map bL).mergeSort fun x y => decide (x ≤ y)) (ss := xs.map bL) (by simp) hbase hgb r1 r2 r3
    rw [hsl] at hos ⊢
    exact ⟨_, rfl, hos, hb'.grown (grownBy_sorted _) hb'.size (fun j hj => by cases hj; exact hbase)⟩

theorem values_any (a : Option Addr) (len cap : Nat) (w : World) : Calls Try.prog 33 #[.slice a len cap] w fun e w' => e = .returned (.func (.func 44) #[] #[.pointer (some ⟨w.heap.size, 0, none⟩)]) ∧ w' = w.alloc (.cells #[.slice a len cap] 25) :=
  (callsIn_wide (n := 5)).1 (values_in Fence.wide 5 trivial rfl a len cap w)

theorem sort_perm (xs : List ByteArray) : ∃ r : List ByteArray, r.Perm xs ∧ Rising r ∧ ((xs.map bL).mergeSort (fun x y => decide (x ≤ y))).map encStr = r.map Value.string ∧ r.length = xs.length := by
  refine ⟨((xs.map bL).mergeSort (fun x y => decide (x ≤ y))).map (fun l => (⟨l.toArray⟩ : ByteArray)), ?_, ?_, ?_, ?_⟩
  · have h1 := (List.mergeSort_perm (xs.map bL) (fun x y => decide (x ≤ y))).map (fun l => (⟨l.toArray⟩ : ByteArray))
    refine h1.trans ?_
    rw [List.map_map]
    have : (fun l : List UInt8 => (⟨l.toArray⟩ : ByteArray)) ∘ bL = id := by
      funext p
      exact ofL_toL p
    rw [this, List.map_id]
  · unfold Rising
    rw [List.pairwise_map]
    exact (List.pairwise_mergeSort (le := leB) leB_trans leB_total (xs.map bL)).imp fun {a b} h => by simpa [leB] using h
  · rw [List.map_map]
    rfl
  · simp

/-- slices.Sorted(slices.Values(xs)) behind the call of Values: the texts, rising, in a row of its own. -/
theorem sortedVals_any {w : World} {A : Option Addr} {cap : Nat} {xs : List ByteArray} (hreach : xs.length ≤ 1000000) (hc : Kd.C Kd.string w A xs.length xs) :
    Calls Try.prog 32 #[.func (.func 44) #[] #[.pointer (some ⟨w.heap.size, 0, none⟩)]] (w.alloc (.cells #[.slice A xs.length cap] 25)) fun e w' =>
      ∃ (v : Value) (r : List ByteArray), e = .returned v ∧ r.Perm xs ∧ Rising r ∧ w'.ownsRow (w.heap.size + 1) 9 1 v r.length (r.map Value.string) ∧ Below w.heap.size w w' := by
  have hB0 : Below w.heap.size w (w.alloc (.cells #[.slice A xs.length cap] 25)) := (Below.refl _ w).alloc (Nat.le_refl _) _
  have hbk : ∀ ad, A = some ad → 0 < xs.length → ad.block < (w.alloc (.cells #[.slice A xs.length cap] 25)).heap.size := by
    rintro ad rfl h0
    obtain ⟨ad', e, hcell⟩ := at_str hc h0
    cases e
    have := World.block_lt_of_cell? _ _ hcell
    rw [add_block] at this
    simp
    omega
  refine ((callsIn_wide (n := 5)).1 (sortedVals_in Fence.wide 5 trivial trivial trivial trivial trivial rfl (sorts_at _) (by omega) w.heap.size cap A xs hreach _ hbk (by simp) (by simp) (Kd.C_below hc hB0))).mono ?_
  rintro e w' ⟨v, rfl, hrow, hb⟩
  obtain ⟨r, h1, h2, h3, h4⟩ := sort_perm xs
  refine ⟨v, r, rfl, h1, h2, ?_, hB0.trans (hb.mono (by simp))⟩
  rw [h3, List.length_map, ← h4] at hrow
  simpa using hrow

end Go.Proofs.Ytplgelmfhacjkaa

namespace Go.Proofs.Ytplgelmfhacjkaa
open Go.RowKit Go.Proofs.YtplgelmfhacjkaaW.PrintWords

/-- v is a slice over a block of the call's own, whatever its offset; its elements are xs. -/
def QOwn (w : World) (B : Nat) (e : TypeId) (v : Value) (xs : List ByteArray) : Prop :=
  (v = .slice none 0 0 ∧ xs = []) ∨
  ∃ g off cap cur, v = .slice (some ⟨g, off, none⟩) xs.length cap ∧ B ≤ g ∧ w.heap[g]? = some (.cells cur e (0, 0)) ∧ xs.length ≤ cap ∧ cap ≤ maxLen ∧ off + cap ≤ cur.size ∧
    ∀ j x, xs[j]? = some x → cur[off + j]? = some (.string x)

theorem QOwn.nil (w : World) (B : Nat) (e : TypeId) : QOwn w B e (.slice none 0 0) [] := .inl ⟨rfl, rfl⟩

theorem QOwn.lt {w : World} {B : Nat} {e : TypeId} {v : Value} {xs : List ByteArray} (h : QOwn w B e v xs) {k : Nat} (hk : v.ownBlock = some k) : B ≤ k ∧ k < w.heap.size := by
  rcases h with ⟨rfl, _⟩ | ⟨g, off, cap, cur, rfl, hb, hg, _⟩
  · cases hk
  · cases hk
    exact ⟨hb, (Array.getElem?_eq_some_iff.1 hg).1⟩

theorem QOwn.move {w w' : World} {B : Nat} {e : TypeId} {v : Value} {xs : List ByteArray} (h : QOwn w B e v xs) (hm : ∀ k, v.ownBlock = some k → w'.heap[k]? = w.heap[k]?) : QOwn w' B e v xs := by
  rcases h with h | ⟨g, off, cap, cur, rfl, hb, hg, r⟩
  · exact .inl h
  · exact .inr ⟨g, off, cap, cur, rfl, hb, (hm g rfl).trans hg, r⟩

theorem QOwn.below {w w' : World} {B : Nat} {e : TypeId} {v : Value} {xs : List ByteArray} (h : QOwn w B e v xs) (hb : Below w.heap.size w w') : QOwn w' B e v xs := h.move fun k hk => hb.block k (h.lt hk).2
theorem QOwn.weaken {w : World} {B C : Nat} {e : TypeId} {v : Value} {xs : List ByteArray} (h : QOwn w B e v xs) (hc : C ≤ B) : QOwn w C e v xs := by
  rcases h with h | ⟨g, off, cap, cur, rfl, hb, r⟩
  · exact .inl h
  · exact .inr ⟨g, off, cap, cur, rfl, by omega, r⟩

theorem QOwn.slice {w : World} {B : Nat} {e : TypeId} {v : Value} {xs : List ByteArray} (h : QOwn w B e v xs) : ∃ A c, v = .slice A xs.length c ∧ xs.length ≤ c := by
  rcases h with ⟨rfl, rfl⟩ | ⟨g, off, cap, cur, rfl, _, _, hc, _⟩
  · exact ⟨none, 0, rfl, Nat.le_refl _⟩
  · exact ⟨_, cap, rfl, hc⟩

theorem QOwn.read {w : World} {B : Nat} {e : TypeId} {v : Value} {xs : List ByteArray} (h : QOwn w B e v xs) (hl : xs.length ≤ 1000000) : ∃ A c, v = .slice A xs.length c ∧ xs.length ≤ c ∧ Kd.C Kd.string w A xs.length xs := by
  rcases h with ⟨rfl, rfl⟩ | ⟨g, off, cap, cur, rfl, _, hg, hc, _, _, hr⟩
  · exact ⟨none, 0, rfl, Nat.le_refl _, rfl, by simp, fun h => absurd h (Nat.lt_irrefl _)⟩
  · refine ⟨_, cap, rfl, hc, rfl, by omega, fun _ => ⟨_, rfl, fun j p hj => ⟨[.string p], rfl, rfl, fun i u hi => ?_⟩⟩⟩
    have hi0 : i = 0 := by
      have := (List.getElem?_eq_some_iff.1 hi).1
      simp at this
      exact this
    subst hi0
    simp only [List.getElem?_cons_zero, Option.some.injEq] at hi
    subst hi
    show w.cell? ((⟨g, off, none⟩ : Addr).add (j * 1 + 0)) = _
    rw [Nat.mul_one, Nat.add_zero, addk']
    simp only [World.cell?, hg]
    exact hr j p hj

theorem QOwn.of_own {w : World} {B : Nat} {e : TypeId} {v : Value} {xs : List ByteArray} (h : w.ownsRow B e 1 v xs.length (xs.map Value.string)) : QOwn w B e v xs := by
  rcases h.2 with ⟨rfl, h0⟩ | ⟨g, cap, cur, rfl, hb, hg, hn, hm, hs, ht⟩
  · exact .inl ⟨rfl, List.eq_nil_of_length_eq_zero h0⟩
  · refine .inr ⟨g, 0, cap, cur, rfl, hb, hg, hn, hm, by omega, fun j x hj => ?_⟩
    have hl := (List.getElem?_eq_some_iff.1 hj).1
    have h1 := congrArg (·[j]?) ht
    simp only [List.getElem?_map, hj, Option.map_some, List.getElem?_take] at h1
    rw [if_pos (by omega)] at h1
    rw [Nat.zero_add, ← Array.getElem?_toList]
    exact h1

theorem QOwn.tail {w : World} {B : Nat} {e : TypeId} {A : Option Addr} {n c : Nat} {x : ByteArray} {xs : List ByteArray} (h : QOwn w B e (.slice A n c) (x :: xs)) : QOwn w B e (sliced A 1 n c 1) xs := by
  rcases h with ⟨_, h0⟩ | ⟨g, off, cap, cur, hv, hb, hg, hc, hm, hs, hr⟩
  · cases h0
  · simp only [Value.slice.injEq] at hv
    obtain ⟨rfl, rfl, rfl⟩ := hv
    simp only [List.length_cons] at hc ⊢
    unfold sliced
    by_cases h1 : c = 1
    · rw [if_pos h1]
      have h0 : xs = [] := List.eq_nil_of_length_eq_zero (by omega)
      subst h0
      exact .inr ⟨g, off, c - 1, cur, rfl, hb, hg, by simp, by omega, by omega, fun j x hj => by simp at hj⟩
    · rw [if_neg h1]
      refine .inr ⟨g, off + 1, c - 1, cur, ?_, hb, hg, by omega, by omega, by omega, fun j x hj => ?_⟩
      · simp only [Option.map_some, Nat.mul_one, addk', Nat.add_sub_cancel]
      · rw [show off + 1 + j = off + (j + 1) by omega]
        exact hr (j + 1) x (by simpa using hj)

theorem QOwn.cells {w : World} {B : Nat} {e : TypeId} {g off n c : Nat} {xs : List ByteArray} (h : QOwn w B e (.slice (some ⟨g, off, none⟩) n c) xs) : ∀ j u, (xs.map Value.string)[j]? = some u → w.cell? ((⟨g, off, none⟩ : Addr).add j) = some u := by
  rcases h with ⟨h0, _⟩ | ⟨g', off', cap, cur, hv, _, hg, _, _, _, hr⟩
  · cases h0
  · simp only [Value.slice.injEq, Option.some.injEq, Addr.mk.injEq] at hv
    obtain ⟨⟨rfl, rfl, _⟩, rfl, rfl⟩ := hv
    intro j u hu
    simp only [List.getElem?_map, Option.map_eq_some_iff] at hu
    obtain ⟨x, hx, rfl⟩ := hu
    rw [addk']
    simp only [World.cell?, hg]
    exact hr j x hx

theorem run_append_q {P : Program} (w : World) (B : Nat) (t ty e : TypeId) (i : TypeInfo) (ht : P.underlying t = some (.slice e)) (hi : P.info? e = some i) (hz : i.zero = some (.string ⟨#[]⟩)) (hsize : i.size = 1) (hby : i.bytes = 16)
    (v : Value) (xs : List ByteArray) (y : ByteArray) (h : QOwn w B e v xs) (ad : Addr) (c : Nat) (hy : w.cell? ad = some (.string y)) (hl : xs.length ≤ 1000000) (hbase : B ≤ w.heap.size) :
    ∃ v' w', (Builtin.append_ #[t, t] ty #[v, .slice (some ad) 1 c]).run P w = .ok v' w' ∧ QOwn w' B e v' (xs ++ [y]) ∧ w.grownBy w' v.ownBlock ∧ (v'.ownBlock = v.ownBlock ∨ v'.ownBlock = some w.heap.size) := by
  have hsrc : Src P i.size t (.slice (some ad) 1 c) 1 [.string y] w := Src.ofSlice w ht ad 1 c _ (by rw [hsize]; rfl) (fun j u hu => by
    have hj := (List.getElem?_eq_some_iff.1 hu).1
    have hj0 : j = 0 := by simp at hj; exact hj
    subst hj0
    simp only [List.getElem?_cons_zero, Option.some.injEq] at hu
    subst hu
    have e0 : ad.add 0 = ad := by unfold Addr.add; split <;> simp_all
    rw [e0]; exact hy) (by intro u hu; simp only [List.mem_singleton] at hu; subst hu; rfl)
  have hc := fun g off n c (hv : v = .slice (some ⟨g, off, none⟩) n c) => QOwn.cells (g := g) (off := off) (n := n) (c := c) (hv ▸ h)
  have grow : ∀ (bs : Option Addr) (sc : Nat), v = .slice bs xs.length sc → sc < xs.length + 1 → (Builtin.firstCells i.size xs.length (.slice bs xs.length sc)).run P w.drew = .ok (xs.map Value.string).toArray w.drew →
      ∃ v' w', (Builtin.append_ #[t, t] ty #[v, .slice (some ad) 1 c]).run P w = .ok v' w' ∧ QOwn w' B e v' (xs ++ [y]) ∧ w.grownBy w' v.ownBlock ∧ (v'.ownBlock = v.ownBlock ∨ v'.ownBlock = some w.heap.size) := by
    intro bs sc hv hs hf
    rw [hv]
    have hrun := run_append_grow_src (P := P) w t t ty e i _ ht hi hz bs xs.length sc (xs.map Value.string) hf (.slice (some ad) 1 c) 1 [.string y] hsrc hs (by omega) (growslice_fits hs (by rw [hby]; omega))
    have hge := grownCap_ge w (xs.length + 1) sc e
    have hle := grownCap_le_maxLen w (xs.length + 1) sc e (by simp only [maxLen]; omega)
    refine ⟨_, _, hrun, .inr ⟨w.heap.size, 0, grownCap w (xs.length + 1) sc e, _, by rw [List.length_append]; rfl, hbase, heap_alloc_new w.drew _, by rw [List.length_append]; exact hge, hle, ?_, ?_⟩, ⟨rfl, rfl, rfl, by simp, fun k hk _ => Below.heap_alloc w.drew _ k hk⟩, .inr rfl⟩
    · simp only [Array.size_append, List.size_toArray, List.length_append, List.length_map, List.length_cons, List.length_nil, size_zeroCells]
      have : (Value.string ⟨#[]⟩).cells.size = 1 := rfl
      rw [this]
      omega
    · intro j x hj
      have hjl := (List.getElem?_eq_some_iff.1 hj).1
      rw [Nat.zero_add, Array.getElem?_append_left (by simpa using hjl), List.getElem?_toArray]
      rw [show xs.map Value.string ++ [Value.string y] = (xs ++ [y]).map Value.string by simp, List.getElem?_map, hj]
      rfl
  have h0 := h
  rcases h with ⟨rfl, rfl⟩ | ⟨g, off, cap, cur, rfl, hb, hg, hcap, hm, hs, hr⟩
  · exact grow none 0 rfl (by simp) (run_firstCells_none w.drew i.size 0 0 0)
  · by_cases hroom : xs.length + 1 ≤ cap
    · have hlt : off + xs.length < cur.size := by omega
      have hcell : w.cell? ⟨g, off + xs.length * i.size + 0, none⟩ = some cur[off + xs.length] := by
        rw [hsize, Nat.mul_one, Nat.add_zero]
        simp only [World.cell?, hg]
        exact Array.getElem?_eq_getElem hlt
      have hrun := run_append_room_src (P := P) w t t ty e i ht hi g off xs.length cap (.slice (some ad) 1 c) 1 [.string y] hsrc hroom
        (fun j hj => by obtain rfl : j = 0 := by simpa using hj
                        rw [hcell]; rfl)
        (fun j _ => by simp [World.frozen?, hg])
      rw [hsize, Nat.mul_one] at hrun
      have hset : (w.setCell ⟨g, off + xs.length, none⟩ (.string y)).heap[g]? = some (.cells (cur.setIfInBounds (off + xs.length) (.string y)) e (0, 0)) := setCell_row _ hg
      refine ⟨_, _, hrun, .inr ⟨g, off, cap, cur.setIfInBounds (off + xs.length) (.string y), by rw [List.length_append]; rfl, hb, hset, by rw [List.length_append]; exact hroom, hm, by simpa using hs, ?_⟩, ⟨rfl, rfl, rfl, by simp [World.setCells, World.setCell], fun k _ hk => Below.heap_setCell _ _ _ _ (fun e => hk (by simp [Value.ownBlock, e]))⟩, .inl rfl⟩
      intro j x hj
      by_cases hjl : j < xs.length
      · rw [List.getElem?_append_left hjl] at hj
        rw [Array.getElem?_setIfInBounds_ne (by omega)]
        exact hr j x hj
      · have hjt := (List.getElem?_eq_some_iff.1 hj).1
        rw [List.length_append] at hjt
        have e1 : j = xs.length := by simp at hjt; omega
        subst e1
        rw [List.getElem?_append_right (Nat.le_refl _), Nat.sub_self] at hj
        simp only [List.getElem?_cons_zero, Option.some.injEq] at hj
        subst hj
        rw [Array.getElem?_setIfInBounds_self_of_lt hlt]
    · exact grow _ cap rfl (by omega) (run_firstCells_some w.drew i.size xs.length ⟨g, off, none⟩ xs.length cap (xs.map Value.string) (by rw [List.length_map, hsize, Nat.mul_one]) (fun j u hu => hc g off _ _ rfl j u hu))

theorem wpList_append_q {P : Program} (w : World) {ops : Array Oper} {rest : List Oper} {o : Oper} {a : Act} {Q : Exit → Act → World → Prop} (hgd : o.guard = none) (s x : Operand) (t : TypeId)
    (ho : o.op = .call { callee := .builtin .append, args := #[s, x], argTypes := #[t, t] })
    (B : Nat) (e : TypeId) (i : TypeInfo) (ht : P.underlying t = some (.slice e)) (hi : P.info? e = some i) (hz : i.zero = some (.string ⟨#[]⟩)) (hsize : i.size = 1) (hby : i.bytes = 16)
    (v : Value) (xs : List ByteArray) (y : ByteArray) (hs : a.eval s = v) (hq : QOwn w B e v xs) (ad : Addr) (c : Nat) (hx : a.eval x = .slice (some ad) 1 c) (hy : w.cell? ad = some (.string y)) (hl : xs.length ≤ 1000000) (hbase : B ≤ w.heap.size)
    (h : ∀ v' w', QOwn w' B e v' (xs ++ [y]) → w.grownBy w' v.ownBlock → (v'.ownBlock = v.ownBlock ∨ v'.ownBlock = some w.heap.size) → wpList P ops Q rest (a.put o.dst v') w') :
    wpList P ops Q (o :: rest) a w := by
  refine wpList_plain hgd fun K hK => ?_
  obtain ⟨v', w', hrun, h2, h3, h5⟩ := run_append_q (P := P) w B t o.type e i ht hi hz hsize hby v xs y hq ad c hy hl hbase
  unfold Oper.wp execOp
  simp only [ho, resolve, invoke, builtin, Sem.run_bind, Sem.run_pure, Result.andThen_ok, List.map_toArray, List.map_cons, List.map_nil, hs, hx, hrun]
  exact hK _ _ (h v' w' h2 h3 h5)

end Go.Proofs.Ytplgelmfhacjkaa

namespace Go.Proofs.Ytplgelmfhacjkaa
open Go.RowKit Go.Shelf Go.Sort Go.Lib Go.Proofs.YtplgelmfhacjkaaW.PrintWords

theorem compact_rises (zs : List (List UInt8)) (h : zs.Pairwise (· ≤ ·)) : ∀ m, m ≤ zs.length → (compactUpTo zs.toArray m).Pairwise (· < ·) ∧ (∀ x, x ∈ compactUpTo zs.toArray m ↔ x ∈ zs.take m) ∧ ∀ x ∈ compactUpTo zs.toArray m, ∀ j y, j + 1 = m → zs[j]? = some y → x ≤ y
  | 0, _ => ⟨by simp [compactUpTo], by simp [compactUpTo], by simp [compactUpTo]⟩
  | m + 1, hm => by
    obtain ⟨h1, h2, h3⟩ := compact_rises zs h m (by omega)
    have hlt : m < zs.length := by omega
    have hget : zs.toArray[m]! = zs[m] := by simp [hlt]
    rw [compactUpTo_succ]
    by_cases hk : keeps zs.toArray m = true
    · rw [if_pos hk, hget]
      have hall : ∀ x ∈ compactUpTo zs.toArray m, x < zs[m] := by
        intro x hx
        rcases Nat.eq_zero_or_pos m with rfl | hp
        · simp [compactUpTo] at hx
        · have hx1 := h3 x hx (m - 1) zs[m - 1] (by omega) (by simp)
          have hle : zs[m - 1] ≤ zs[m] := List.pairwise_iff_getElem.1 h (m - 1) m (by omega) hlt (by omega)
          have hne : zs[m - 1] ≠ zs[m] := by
            simp only [keeps, decide_eq_true_eq] at hk
            rcases hk with hk | hk
            · omega
            · intro e
              apply hk
              have : zs.toArray[m - 1]! = zs[m - 1] := by
                have hl' : m - 1 < zs.length := by omega
                simp [hl']
              rw [hget, this, e]
          exact Std.lt_of_le_of_lt hx1 (Std.lt_of_le_of_ne hle hne)
      refine ⟨List.pairwise_append.2 ⟨h1, by simp, by simpa using hall⟩, fun x => ?_, fun x hx j y hj hy => ?_⟩
      · rw [List.mem_append, h2, List.take_succ_eq_append_getElem hlt, List.mem_append]
      · obtain rfl : j = m := by omega
        rw [List.getElem?_eq_getElem hlt] at hy
        cases hy
        rcases List.mem_append.1 hx with hx | hx
        · exact Std.le_of_lt (hall x hx)
        · rw [List.mem_singleton.1 hx]
          exact Std.le_refl _
    · rw [if_neg hk, List.append_nil]
      have hp : 0 < m := by
        rcases Nat.eq_zero_or_pos m with rfl | hp
        · simp [keeps] at hk
        · exact hp
      have he : zs[m] = zs[m - 1]'(by omega) := by
        simp only [keeps, decide_eq_true_eq, not_or, ne_eq, Classical.not_not] at hk
        have : zs.toArray[m - 1]! = zs[m - 1]'(by omega) := by
          have hl' : m - 1 < zs.length := by omega
          simp [hl']
        rw [← hget, hk.2, this]
      refine ⟨h1, fun x => ?_, fun x hx j y hj hy => ?_⟩
      · rw [h2, List.take_succ_eq_append_getElem hlt, List.mem_append, List.mem_singleton]
        refine ⟨.inl, fun hx => hx.elim id fun e => ?_⟩
        rw [e, he]
        exact List.mem_iff_getElem?.2 ⟨m - 1, by rw [List.getElem?_take, if_pos (by omega)]; simp⟩
      · obtain rfl : j = m := by omega
        rw [List.getElem?_eq_getElem hlt] at hy
        cases hy
        rw [he]
        exact h3 x hx (j - 1) _ (by omega) (by simp)

theorem compact_texts {r : List ByteArray} (h : Rising r) : ∃ l : List ByteArray, SRising l ∧ (∀ x, x ∈ l ↔ x ∈ r) ∧ (compact (r.map bL)).map encStr = l.map Value.string ∧ l.length = (compact (r.map bL)).length := by
  have hp : (r.map bL).Pairwise (· ≤ ·) := by
    rw [List.pairwise_map]
    exact h
  obtain ⟨h1, h2, _⟩ := compact_rises (r.map bL) hp (r.map bL).length (Nat.le_refl _)
  rw [List.take_length] at h2
  change (compact (r.map bL)).Pairwise (· < ·) at h1
  change ∀ x, x ∈ compact (r.map bL) ↔ x ∈ r.map bL at h2
  refine ⟨(compact (r.map bL)).map (fun l => (⟨l.toArray⟩ : ByteArray)), ?_, fun x => ?_, ?_, by simp⟩
  · unfold SRising
    rw [List.pairwise_map]
    exact h1.imp fun {a b} h => h
  · rw [List.mem_map]
    constructor
    · rintro ⟨y, hy, rfl⟩
      obtain ⟨z, hz, rfl⟩ := List.mem_map.1 ((h2 y).1 hy)
      exact (ofL_toL z) ▸ hz
    · intro hx
      exact ⟨bL x, (h2 _).2 (List.mem_map_of_mem hx), ofL_toL x⟩
  · rw [List.map_map]
    rfl

theorem own_prefix {w : World} {B e : Nat} {g cap n k : Nat} {xs ys : List Value} (h : w.ownsRow B e 1 (.slice (some ⟨g, 0, none⟩) n cap) n (xs ++ ys)) (hk : xs.length = k) (hn : k ≤ n) : w.ownsRow B e 1 (.slice (some ⟨g, 0, none⟩) k cap) k xs := by
  obtain ⟨h1, h | ⟨g', cap', cur, hv, hb, hg, h2, h3, h4, h5⟩⟩ := h
  · cases h.1
  · cases hv
    refine ⟨by omega, .inr ⟨g, cap, cur, rfl, hb, hg, by omega, h3, h4, ?_⟩⟩
    have := congrArg (List.take k) h5
    rw [List.take_take, List.take_append_of_le_length (by omega), ← hk, List.take_length] at this
    rw [← this]
    congr 1
    omega

/-- slices.Compact of a rising row: strictly rising, the same texts, in the same block. -/
theorem compact_any {w : World} {B : Nat} {v : Value} {r : List ByteArray} (h : w.ownsRow B 9 1 v r.length (r.map Value.string)) (hr : Rising r) (hl : r.length ≤ 1000000) (hB : B ≤ w.heap.size) :
    Calls Try.prog 31 #[v] w fun e w' => ∃ (v' : Value) (l : List ByteArray), e = .returned v' ∧ SRising l ∧ (∀ x, x ∈ l ↔ x ∈ r) ∧ l.length ≤ r.length ∧ w'.ownsRow B 9 1 v' l.length (l.map Value.string) ∧ Below B w w' := by
  have hro := h
  rcases h.2 with ⟨rfl, h0⟩ | ⟨g, cap, cur, rfl, hb, hg, hn, hm, hs, ht⟩
  · have hr0 : r = [] := List.eq_nil_of_length_eq_zero h0
    subst hr0
    refine (Try.slices_Compact_string_empty none 0 w).mono ?_
    rintro e w' ⟨rfl, rfl⟩
    exact ⟨_, [], rfl, List.Pairwise.nil, by simp, Nat.le_refl _, hro, Below.refl _ _⟩
  · have hml : (r.map bL).length = r.length := List.length_map ..
    have hH : Holds encStr w g 0 (r.map bL).toArray := holds_of_block hg (by rw [List.length_map, map_bL]; simpa using ht)
    have hcl := compact_length_le (r.map bL)
    obtain ⟨l, l1, l2, l3, l4⟩ := compact_texts hr
    have hc := Try.slices_Compact_string g 0 cap (r.map bL) w hH (by omega) (by omega)
    rw [hml] at hc
    refine hc.mono ?_
    rintro e w' ⟨rfl, q, rfl⟩
    have hos := ownsRow_sorted (os := #[]) (n := q) (ts := compact (r.map bL) ++ List.replicate ((r.map bL).length - (compact (r.map bL)).length) []) (ss := r.map bL) (by simp; omega) hb hg (by omega) hm hs
    rw [grow_empty, List.map_append, l3, hml] at hos
    have hgr := grownBy_sorted (w := w) (g := g) (n := q) (os := #[]) (compact (r.map bL) ++ List.replicate ((r.map bL).length - (compact (r.map bL)).length) []).toArray
    rw [grow_empty, hml] at hgr
    refine ⟨_, l, rfl, l1, l2, by omega, ?_, (Below.refl B w).grown hgr hB (fun j hj => by cases hj; exact hb)⟩
    rw [show (compact (r.map bL)).length = l.length from l4.symm]
    rw [show (compact (r.map bL)).length = l.length from l4.symm] at hos
    exact own_prefix hos (by simp) (by omega)

theorem own_none (w : World) (base : Nat) (e : TypeId) (size : Nat) : w.ownsRow base e size (.slice none 0 0) 0 [] := ⟨by simp, .inl ⟨rfl, rfl⟩⟩
theorem one_str (w : World) (v : ByteArray) (t : TypeId) : Kd.C Kd.string (w.alloc (.cells #[.string v] t)) (some ⟨w.heap.size, 0, none⟩) 1 [v] :=
  strs_read (c := [.string v]) (heap_alloc_new _ _) rfl (by simp)

/-- slices.Clone of a row of texts. -/
theorem clone_own {w : World} {B : Nat} {v : Value} {xs : List ByteArray} (h : w.ownsRow B 9 1 v xs.length (xs.map Value.string)) (hl : xs.length ≤ 1000000) :
    Calls Try.prog 39 #[v] w fun e w' => ∃ v', e = .returned v' ∧ w'.ownsRow w.heap.size 9 1 v' xs.length (xs.map Value.string) ∧ Below w.heap.size w w' := by
  have hcl := fun g (hv : v.ownBlock = some g) => h.cells hv
  rcases h.2 with ⟨rfl, h0⟩ | ⟨g, cap, cur, rfl, hb, hg, hn, hm, hs, ht⟩
  · have hr0 : xs = [] := List.eq_nil_of_length_eq_zero h0
    subst hr0
    refine (Try.slices_Clone_string_nil 0 0 w).mono ?_
    rintro e w' ⟨rfl, rfl⟩
    exact ⟨_, rfl, own_none _ _ _ _, Below.refl _ _⟩
  · refine (Try.slices_Clone_string g 0 xs.length cap xs w (Nat.le_refl _) (by omega) ?_).mono ?_
    · intro j hj
      have := hcl g rfl j (.string xs[j]) (by simp [hj])
      rw [add0] at this
      rw [Nat.zero_add, this, List.getD_eq_getElem?_getD, List.getElem?_eq_getElem hj]
      rfl
    · rintro e w' ⟨v', rfl, ho, _, hbl⟩
      rw [List.take_length] at ho
      exact ⟨_, rfl, ho, hbl⟩

/-- slices.Sort of a row of texts. -/
theorem sort_own {w : World} {B : Nat} {v : Value} {xs : List ByteArray} (h : w.ownsRow B 9 1 v xs.length (xs.map Value.string)) (hl : xs.length ≤ 1000000) (hB : B ≤ w.heap.size) :
    Calls Try.prog 34 #[v] w fun e w' => e = .returned (.tuple #[]) ∧ (∃ r : List ByteArray, r.Perm xs ∧ Rising r ∧ r.length = xs.length ∧ w'.ownsRow B 9 1 v r.length (r.map Value.string)) ∧ Below B w w' ∧ w.grownBy w' v.ownBlock := by
  have hro := h
  rcases h.2 with ⟨rfl, h0⟩ | ⟨g, cap, cur, rfl, hb, hg, hn, hm, hs, ht⟩
  · have hr0 : xs = [] := List.eq_nil_of_length_eq_zero h0
    subst hr0
    refine (Try.slices_Sort_string_none none 0 w).mono ?_
    rintro e w' ⟨rfl, rfl⟩
    exact ⟨rfl, ⟨[], .refl _, List.Pairwise.nil, rfl, hro⟩, Below.refl _ _, ⟨rfl, rfl, rfl, Nat.le_refl _, fun _ _ _ => rfl⟩⟩
  · have hml : (xs.map bL).length = xs.length := List.length_map ..
    have hH : Holds encStr w g 0 (xs.map bL).toArray := holds_of_block hg (by rw [List.length_map, map_bL]; simpa using ht)
    obtain ⟨r, r1, r2, r3, r4⟩ := sort_perm xs
    have hc := Try.slices_Sort_string g 0 cap (xs.map bL) w hH (Array.getElem?_eq_some_iff.1 hg).1 (by omega)
    rw [hml] at hc
    refine hc.mono ?_
    rintro e w' ⟨rfl, n, os, rfl⟩
    have hos := ownsRow_sorted (os := os) (n := n) (ts := (xs.map bL).mergeSort fun x y => decide (x ≤ y)) (ss := xs.map bL) (by simp) hb hg (by omega) hm hs
    rw [r3, hml, ← r4] at hos
    refine ⟨rfl, ⟨r, r1, r2, r4, ?_⟩, (Below.refl B w).grown (grownBy_sorted _) hB (fun j hj => by cases hj; exact hb), grownBy_sorted _⟩
    rw [← r4]
    exact hos

end Go.Proofs.Ytplgelmfhacjkaa

namespace Go.Proofs.Ytplgelmfhacjkaa
open Go.RowKit Go.Proofs.YtplgelmfhacjkaaW.PrintWords

abbrev Ent := ByteArray × List ByteArray
def idsG (G : List Ent) : List ByteArray := G.map (·.1)
def hasG (G : List Ent) (id : ByteArray) : Bool := inB (idsG G) id
def parG (G : List Ent) (id : ByteArray) : List ByteArray := ((G.find? fun e => decide (e.1 = id)).map (·.2)).getD []
def cntG (G : List Ent) (id : ByteArray) : Nat := (G.filter fun e => inB e.2 id).length

structure GOk (G : List Ent) : Prop where
  nodup : (idsG G).Nodup
  idok : ∀ e ∈ G, 0 < e.1.size ∧ e.1.size ≤ 64
  rise : ∀ e ∈ G, SRising e.2
  back : ∀ (i : Nat) (e : Ent), G[i]? = some e → ∀ p ∈ e.2, p ∈ idsG (G.take i)
  len : G.length ≤ 300

theorem GOk.nil : GOk [] := ⟨List.nodup_nil, by simp, by simp, by simp, by simp⟩

def whyG (G : List Ent) (id : ByteArray) (ps : List ByteArray) : Int :=
  if id.size = 0 ∨ 64 < id.size then 1 else if hasG G id then 11 else if 300 ≤ G.length then 3 else if ps.all (hasG G) then 0 else 9
def addG (G : List Ent) (id : ByteArray) (ps : List ByteArray) : List Ent := if whyG G id ps = 0 then G ++ [(id, srt ps)] else G

theorem hasG_iff {G : List Ent} {id : ByteArray} : hasG G id = true ↔ id ∈ idsG G := inB_iff
theorem hasG_false {G : List Ent} {id : ByteArray} : hasG G id = false ↔ id ∉ idsG G := by
  rw [← hasG_iff]
  simp

theorem whyG_ok {G : List Ent} {id : ByteArray} {ps : List ByteArray} (h : whyG G id ps = 0) : 0 < id.size ∧ id.size ≤ 64 ∧ id ∉ idsG G ∧ G.length < 300 ∧ ∀ p ∈ ps, p ∈ idsG G := by
  unfold whyG at h
  split at h
  · cases h
  · split at h
    · cases h
    · split at h
      · cases h
      · split at h
        · rename_i h1 h2 h3 h4
          rw [not_or] at h1
          simp only [Bool.not_eq_true] at h2
          exact ⟨by omega, by omega, hasG_false.1 h2, by omega, fun p hp => hasG_iff.1 (List.all_eq_true.1 h4 p hp)⟩
        · cases h

theorem idsG_append (G H : List Ent) : idsG (G ++ H) = idsG G ++ idsG H := List.map_append ..

theorem addG_ok {G : List Ent} (h : GOk G) (id : ByteArray) (ps : List ByteArray) : GOk (addG G id ps) := by
  unfold addG
  split
  · rename_i hw
    obtain ⟨h1, h2, h3, h4, h5⟩ := whyG_ok hw
    refine ⟨?_, ?_, ?_, ?_, ?_⟩
    · rw [idsG_append]
      refine List.nodup_append.2 ⟨h.nodup, by simp [idsG], ?_⟩
      intro a ha b hb e
      simp [idsG] at hb
      rw [e, hb] at ha
      exact h3 (by simpa [idsG] using ha)
    · intro e he
      rcases List.mem_append.1 he with he | he
      · exact h.idok e he
      · rw [List.mem_singleton.1 he]
        exact ⟨h1, h2⟩
    · intro e he
      rcases List.mem_append.1 he with he | he
      · exact h.rise e he
      · rw [List.mem_singleton.1 he]
        exact srt_rising ps
    · intro i e hi p hp
      by_cases hlt : i < G.length
      · rw [List.getElem?_append_left hlt] at hi
        rw [List.take_append_of_le_length (by omega)]
        exact h.back i e hi p hp
      · have hl := (List.getElem?_eq_some_iff.1 hi).1
        simp at hl
        obtain rfl : i = G.length := by omega
        rw [List.getElem?_append_right (Nat.le_refl _)] at hi
        simp at hi
        subst hi
        rw [List.take_left]
        exact h5 p ((srt_mem ps p).1 hp)
    · simp
      omega
  · exact h

/-- What is in the past of what. -/
inductive Anc (G : List Ent) : ByteArray → ByteArray → Prop
  | par {p id : ByteArray} : p ∈ parG G id → Anc G p id
  | step {p q id : ByteArray} : p ∈ parG G q → Anc G q id → Anc G p id

/-- The list l is the past of id, rising. -/
def IsPast (G : List Ent) (id : ByteArray) (l : List ByteArray) : Prop := SRising l ∧ ∀ x, x ∈ l ↔ Anc G x id
theorem IsPast.one {G : List Ent} {id : ByteArray} {l k : List ByteArray} (h : IsPast G id l) (g : IsPast G id k) : l = k :=
  srising_eq h.1 g.1 fun s => (h.2 s).trans (g.2 s).symm

/-- The list l is those that are no other one's parents, rising. -/
def IsHeads (G : List Ent) (l : List ByteArray) : Prop := SRising l ∧ ∀ x, x ∈ l ↔ (x ∈ idsG G ∧ ∀ e ∈ G, x ∉ e.2)
theorem IsHeads.one {G : List Ent} {l k : List ByteArray} (h : IsHeads G l) (g : IsHeads G k) : l = k :=
  srising_eq h.1 g.1 fun s => (h.2 s).trans (g.2 s).symm

/-- Whoever may come next, behind those in out. -/
def Ready (G : List Ent) (out : List ByteArray) (x : ByteArray) : Prop := ∃ e ∈ G, e.1 = x ∧ x ∉ out ∧ ∀ p ∈ e.2, p ∈ out

/-- The list l is the entries' order: each is the lowest of those that may come. -/
def IsOrd (G : List Ent) (l : List ByteArray) : Prop :=
  l.length = G.length ∧ ∀ (i : Nat) (x : ByteArray), l[i]? = some x → Ready G (l.take i) x ∧ ∀ y, Ready G (l.take i) y → y = x ∨ ltS x y

theorem IsOrd.one {G : List Ent} {l k : List ByteArray} (h : IsOrd G l) (g : IsOrd G k) : l = k := by
  have key : ∀ n, n ≤ l.length → l.take n = k.take n := by
    intro n
    induction n with
    | zero => intro _; rfl
    | succ n ih =>
      intro hn
      have ihn := ih (by omega)
      have h1 : n < l.length := by omega
      have h2 : n < k.length := by have := h.1; have := g.1; omega
      rw [List.take_succ_eq_append_getElem h1, List.take_succ_eq_append_getElem h2, ihn]
      congr 2
      obtain ⟨a1, a2⟩ := h.2 n l[n] (by simp)
      obtain ⟨b1, b2⟩ := g.2 n k[n] (by simp)
      rw [ihn] at a1 a2
      rcases a2 _ b1 with e | e
      · exact e.symm
      · rcases b2 _ a1 with e' | e'
        · exact e'
        · exact absurd (ltS_trans e e') (ltS_irrefl _)
  have := key l.length (Nat.le_refl _)
  rw [List.take_length, List.take_of_length_le (by have := h.1; have := g.1; omega)] at this
  exact this

theorem find_at {G : List Ent} (hn : (idsG G).Nodup) {i : Nat} {e : Ent} (hi : G[i]? = some e) : (G.find? fun x => decide (x.1 = e.1)) = some e := by
  induction G generalizing i with
  | nil => simp at hi
  | cons x G ih =>
    simp only [idsG, List.map_cons, List.nodup_cons] at hn
    cases i with
    | zero =>
      simp only [List.getElem?_cons_zero, Option.some.injEq] at hi
      subst hi
      simp
    | succ i =>
      simp only [List.getElem?_cons_succ] at hi
      have hm : e.1 ∈ List.map (·.1) G := List.mem_map.2 ⟨e, List.mem_of_getElem? hi, rfl⟩
      rw [List.find?_cons_of_neg (by simp; intro h; exact hn.1 (h ▸ hm))]
      exact ih hn.2 hi

theorem parG_at {G : List Ent} (hn : (idsG G).Nodup) {i : Nat} {e : Ent} (hi : G[i]? = some e) : parG G e.1 = e.2 := by
  unfold parG
  rw [find_at hn hi]
  rfl

theorem parG_none {G : List Ent} {id : ByteArray} (h : id ∉ idsG G) : parG G id = [] := by
  unfold parG
  rw [List.find?_eq_none.2]
  · rfl
  · intro x hx
    simp only [decide_eq_true_eq]
    intro e
    exact h (List.mem_map.2 ⟨x, hx, e⟩)

theorem mem_idsG {G : List Ent} {id : ByteArray} (h : id ∈ idsG G) : ∃ (i : Nat) (e : Ent), G[i]? = some e ∧ e.1 = id := by
  obtain ⟨e, he, rfl⟩ := List.mem_map.1 h
  obtain ⟨i, hi⟩ := List.mem_iff_getElem?.1 he
  exact ⟨i, e, hi, rfl⟩

theorem parG_mem {G : List Ent} {id p : ByteArray} (h : GOk G) (hp : p ∈ parG G id) : p ∈ idsG G := by
  by_cases hid : id ∈ idsG G
  · obtain ⟨i, e, hi, rfl⟩ := mem_idsG hid
    rw [parG_at h.nodup hi] at hp
    have := h.back i e hi p hp
    obtain ⟨x, hx, rfl⟩ := List.mem_map.1 this
    exact List.mem_map.2 ⟨x, List.mem_of_mem_take hx, rfl⟩
  · rw [parG_none hid] at hp
    cases hp

theorem parG_rise {G : List Ent} (h : GOk G) (id : ByteArray) : SRising (parG G id) := by
  by_cases hid : id ∈ idsG G
  · obtain ⟨i, e, hi, rfl⟩ := mem_idsG hid
    rw [parG_at h.nodup hi]
    exact h.rise e (List.mem_of_getElem? hi)
  · rw [parG_none hid]
    exact List.Pairwise.nil

end Go.Proofs.Ytplgelmfhacjkaa
